/- Part 16 of what that rests on; no condition. -/
import Derived.Test.YtkkgcebhfghdnaaGreatDoorKj
import Derived.ChangeSame
import Derived.Deep.AppendLies
import Derived.Deep.Draws
import Derived.Deep.Fields
import Derived.Deep.Slices
import Derived.JoinedCond
import Derived.Lib.Hide
import Derived.MapKept
import Derived.OpenShut
import Derived.ProofKit
import Derived.Test.YtkkgcebhfghdnaaGreatDoorRows
import Derived.WalkKit
set_option maxRecDepth 100000
set_option maxHeartbeats 8000000
namespace Go.Proofs.YtkkgcebhfghdnaaGreatDoor
open Go
theorem BV{f:FuncId}{fn:Func}(h:Ae.funcs[f]? =some fn)(hb:fn.body.isNone=false)(hn:(fn.name== "runtime.NumGoroutine")=false)(p:Array Value)(w:World):(callFunc f p).run Ae w=.ok (.enter f p) w:=by
 unfold callFunc;simp only[Sem.run_bind];have:(program).run Ae w=.ok Ae w:=rfl;rw[this];simp only[Result.andThen_ok,h,hb,hn,Ak,if_false];rfl
theorem BM{f:FuncId}{fn:Func}(h:f≠47/\f≠46/\f≠79)(k:Tryz.prog.funcs[f]? =some fn):Ae.funcs[f]? =some fn:=(Ai.same h).trans k
abbrev VF5:=BM Az Tryz.func5
abbrev VF8:=BM Az Tryz.func8
abbrev VF9:=BM Az Tryz.func9
abbrev AD4:=BM Az Tryz.func10
abbrev AKL:=BM Az Tryz.func13
abbrev AKM:=BM Az Tryz.func14
abbrev AKN:=BM Az Tryz.func15
abbrev AKO:=BM Az Tryz.func16
abbrev AKP:=BM Az Tryz.func17
abbrev AKQ:=BM Az Tryz.func18
abbrev AKR:=BM Az Tryz.func19
abbrev AKS:=BM Az Tryz.func20
abbrev AKT:=BM Az Tryz.func21
abbrev AKU:=BM Az Tryz.func22
abbrev AKV:=BM Az Tryz.func23
abbrev AKW:=BM Az Tryz.func24
abbrev AKX:=BM Az Tryz.func28
abbrev AKY:=BM Az Tryz.func31
abbrev AKZ:=BM Az Tryz.func32
abbrev AKa:=BM Az Tryz.func35
abbrev AD5:=BM Az Tryz.func36
abbrev AHI:=BM Az Tryz.func37
abbrev AHJ:=BM Az Tryz.func38
abbrev AHK:=BM Az Tryz.func39
abbrev AHL:=BM Az Tryz.func40
abbrev AKb:=BM Az Tryz.func41
abbrev AKc:=BM Az Tryz.func42
abbrev AKd:=BM Az Tryz.func43
abbrev AKe:=BM Az Tryz.func44
abbrev AKf:=BM Az Tryz.func45
abbrev AKg:=BM Az Tryz.func48
abbrev AKh:=BM Az Tryz.func49
abbrev AKi:=BM Az Tryz.func50
abbrev AKj:=BM Az Tryz.func51
abbrev AKk:=BM Az Tryz.func52
abbrev AKl:=BM Az Tryz.func53
abbrev AKm:=BM Az Tryz.func54
abbrev AKn:=BM Az Tryz.func55
abbrev AKo:=BM Az Tryz.func56
abbrev AKp:=BM Az Tryz.func57
abbrev AAS:=BM Az Tryz.func58
abbrev AKq:=BM Az Tryz.func59
abbrev AKr:=BM Az Tryz.func60
abbrev AHM:=BM Az Tryz.func61
abbrev AKs:=BM Az Tryz.func62
abbrev AKt:=BM Az Tryz.func63
abbrev AKu:=BM Az Tryz.func64
abbrev AKv:=BM Az Tryz.func65
abbrev AHN:=BM Az Tryz.func67
abbrev AKw:=BM Az Tryz.func70
abbrev AKx:=BM Az Tryz.func71
abbrev AKy:=BM Az Tryz.func72
abbrev AKz:=BM Az Tryz.func73
abbrev AHO:=BM Az Tryz.func78
abbrev AK0:=BM Az Tryz.func81
abbrev AK1:=BM Az Tryz.func82
abbrev AK2:=BM Az Tryz.func83
abbrev APg:=BM Az Tryz.func84
abbrev AK3:=BM Az Tryz.func85
abbrev AK4:=BM Az Tryz.func86
abbrev AK5:=BM Az Tryz.func87
abbrev AK6:=BM Az Tryz.func88
abbrev AK7:=BM Az Tryz.func89
abbrev AK8:=BM Az Tryz.func90
abbrev AHP:=BM Az Tryz.func94
abbrev AK9:=BM Az Tryz.func95
abbrev ALA:=BM Az Tryz.func96
abbrev ALB:=BM Az Tryz.func97
abbrev ALC:=BM Az Tryz.func98
abbrev ALD:=BM Az Tryz.func99
abbrev AHQ:=BM Az Tryz.func100
abbrev AHR:=BM Az Tryz.func120
abbrev ANJ:=BM Az Tryz.func122
abbrev ACk:=BM Az Tryz.func123
abbrev AHS:=BM Az Tryz.func124
abbrev AHT:=BM Az Tryz.func125
abbrev AHU:=BM Az Tryz.func128
abbrev AHV:=BM Az Tryz.func129
abbrev AHW:=BM Az Tryz.func130
abbrev ANK:=BM Az Tryz.func136
abbrev ANL:=BM Az Tryz.func137
abbrev ANM:=BM Az Tryz.func138
abbrev ANN:=BM Az Tryz.func139
abbrev ANO:=BM Az Tryz.func140
abbrev ANP:=BM Az Tryz.func141
abbrev ANQ:=BM Az Tryz.func142
abbrev ANR:=BM Az Tryz.func143
abbrev ANT:=BM Az Tryz.func144
abbrev ANU:=BM Az Tryz.func145
abbrev ANV:=BM Az Tryz.func146
abbrev ANW:=BM Az Tryz.func147
abbrev ANX:=BM Az Tryz.func148
abbrev ANZ:=BM Az Tryz.func149
abbrev ANa:=BM Az Tryz.func150
abbrev ANb:=BM Az Tryz.func151
abbrev ANc:=BM Az Tryz.func152
abbrev ANd:=BM Az Tryz.func153
abbrev ANe:=BM Az Tryz.func154
abbrev ANf:=BM Az Tryz.func155
abbrev ANg:=BM Az Tryz.func156
abbrev AHX:=BM Az Tryz.func177
abbrev AHY:=BM Az Tryz.func178
abbrev AHZ:=BM Az Tryz.func179
abbrev AHa:=BM Az Tryz.func180
abbrev AHb:=BM Az Tryz.func181
abbrev AHc:=BM Az Tryz.func183
abbrev AHd:=BM Az Tryz.func185
abbrev ALE:=BM Az Tryz.func68
abbrev ALF:=BM Az Tryz.func91
abbrev APh:=BM Az Tryz.func92
abbrev APi:=BM Az Tryz.func93
abbrev ANh:=BM Az Tryz.func121
abbrev ANi:=BM Az Tryz.func126
abbrev ANj:=BM Az Tryz.func127
abbrev ANk:=BM Az Tryz.func171
abbrev AHe:=BM Az Tryz.func190
abbrev ANl:=BM Az Tryz.func192
abbrev ANm:=BM Az Tryz.func193
abbrev VC8:=BV VF8 rfl Ap
abbrev VC9:=BV VF9 rfl Ap
abbrev APj:=BV AD4 rfl Ap
abbrev APk:=BV AKL rfl Ap
abbrev APl:=BV AKM rfl Ap
abbrev APm:=BV AKN rfl Ap
abbrev APn:=BV AKO rfl Ap
abbrev ALG:=BV AKP rfl Ap
abbrev APo:=BV AKQ rfl Ap
abbrev APp:=BV AKR rfl Ap
abbrev ALH:=BV AKS rfl Ap
abbrev AD6:=BV AKT rfl Ap
abbrev APq:=BV AKU rfl Ap
abbrev APr:=BV AKV rfl Ap
abbrev APs:=BV AKW rfl Ap
abbrev APt:=BV AKX rfl Ap
abbrev APu:=BV AKY rfl Ap
abbrev APv:=BV AKZ rfl Ap
abbrev APw:=BV AKa rfl Ap
abbrev rZ:=BV AD5 rfl Ap
abbrev AHf:=BV AHI rfl Ap
abbrev AHg:=BV AHJ rfl Ap
abbrev ALI:=BV AHK rfl Ap
abbrev APx:=BV AHL rfl Ap
abbrev APy:=BV AKb rfl Ap
abbrev APz:=BV AKc rfl Ap
abbrev AP0:=BV AKd rfl Ap
abbrev AP1:=BV AKe rfl Ap
abbrev AP2:=BV AKf rfl Ap
abbrev AP3:=BV rH rfl Ap
abbrev AP4:=BV AAB rfl Ap
abbrev AP5:=BV AKg rfl Ap
abbrev AP6:=BV AKh rfl Ap
abbrev ALJ:=BV AKi rfl Ap
abbrev AP7:=BV AKj rfl Ap
abbrev AP8:=BV AKk rfl Ap
abbrev ALK:=BV AKl rfl Ap
abbrev AHh:=BV AKm rfl Ap
abbrev ALM:=BV AKn rfl Ap
abbrev AP9:=BV AKo rfl Ap
abbrev AQA:=BV AKp rfl Ap
abbrev AQB:=BV AAS rfl Ap
abbrev ALN:=BV AKq rfl Ap
abbrev ALO:=BV AKr rfl Ap
abbrev AHi:=BV AHM rfl Ap
abbrev AQC:=BV AKs rfl Ap
abbrev AQD:=BV AKt rfl Ap
abbrev AQE:=BV AKu rfl Ap
abbrev AQF:=BV AKv rfl Ap
abbrev AQG:=BV AHN rfl Ap
abbrev fM:=BV AKw rfl Ap
abbrev AAT:=BV AKx rfl Ap
abbrev AQH:=BV AKy rfl Ap
abbrev AQI:=BV AKz rfl Ap
abbrev AHj:=BV AHO rfl Ap
abbrev AHk:=BV AK0 rfl Ap
abbrev AQJ:=BV AK1 rfl Ap
abbrev AQK:=BV AK2 rfl Ap
abbrev AQL:=BV AK3 rfl Ap
abbrev AQM:=BV AK4 rfl Ap
abbrev AHl:=BV AK5 rfl Ap
abbrev ALP:=BV AK6 rfl Ap
abbrev ALQ:=BV AK7 rfl Ap
abbrev AQN:=BV AK8 rfl Ap
abbrev ALR:=BV AHP rfl Ap
abbrev AQO:=BV AK9 rfl Ap
abbrev AQP:=BV ALA rfl Ap
abbrev AQQ:=BV ALB rfl Ap
abbrev AQR:=BV ALC rfl Ap
abbrev AQS:=BV ALD rfl Ap
abbrev ANn:=BV AHQ rfl Ap
abbrev ANo:=BV AHR rfl Ap
abbrev ANp:=BV AHU rfl Ap
abbrev ANq:=BV AHV rfl Ap
abbrev ANr:=BV AHW rfl Ap
abbrev ANs:=BV AHX rfl Ap
abbrev ANt:=BV AHY rfl Ap
abbrev ANu:=BV AHZ rfl Ap
abbrev ANv:=BV AHa rfl Ap
abbrev ANw:=BV AHb rfl Ap
abbrev ANx:=BV AHc rfl Ap
abbrev ANy:=BV AHd rfl Ap
abbrev VU0:=(Ai.und 0).trans Tryz.underlying0
abbrev VI0:=λw=>(Ai.La 0 w).trans (Tryz.isAgg0 w)
abbrev VS0:=λw=>(Ai.IX 0 w).trans (Tryz.sizeOf0 w)
abbrev VZ0:=λw=>(Ai.IY 0 w).trans (Tryz.zeroValue0 w)
abbrev VU3:=(Ai.und 3).trans Tryz.underlying3
abbrev VI3:=λw=>(Ai.La 3 w).trans (Tryz.isAgg3 w)
abbrev VS3:=λw=>(Ai.IX 3 w).trans (Tryz.sizeOf3 w)
abbrev VZ3:=λw=>(Ai.IY 3 w).trans (Tryz.zeroValue3 w)
abbrev VU4:=(Ai.und 4).trans Tryz.underlying4
abbrev VI4:=λw=>(Ai.La 4 w).trans (Tryz.isAgg4 w)
abbrev VS4:=λw=>(Ai.IX 4 w).trans (Tryz.sizeOf4 w)
abbrev VZ4:=λw=>(Ai.IY 4 w).trans (Tryz.zeroValue4 w)
abbrev VU5:=(Ai.und 5).trans Tryz.underlying5
abbrev VI5:=λw=>(Ai.La 5 w).trans (Tryz.isAgg5 w)
abbrev VS5:=λw=>(Ai.IX 5 w).trans (Tryz.sizeOf5 w)
abbrev VZ5:=λw=>(Ai.IY 5 w).trans (Tryz.zeroValue5 w)
abbrev J4:=(Ai.und 9).trans Tryz.underlying9
abbrev jJ:=λw=>(Ai.La 9 w).trans (Tryz.isAgg9 w)
abbrev jK:=λw=>(Ai.IX 9 w).trans (Tryz.sizeOf9 w)
abbrev jL:=λw=>(Ai.IY 9 w).trans (Tryz.zeroValue9 w)
abbrev AQT:=(Ai.und 20).trans Tryz.underlying20
abbrev AQU:=λw=>(Ai.La 20 w).trans (Tryz.isAgg20 w)
abbrev AQV:=λw=>(Ai.IX 20 w).trans (Tryz.sizeOf20 w)
abbrev AQW:=λw=>(Ai.IY 20 w).trans (Tryz.zeroValue20 w)
abbrev AQX:=(Ai.und 22).trans Tryz.underlying22
abbrev AQY:=(Ai.und 25).trans Tryz.underlying25
abbrev AQZ:=(Ai.und 28).trans Tryz.underlying28
abbrev ALS:=(Ai.und 37).trans Tryz.underlying37
abbrev ALT:=λw=>(Ai.La 37 w).trans (Tryz.isAgg37 w)
abbrev ALU:=λw=>(Ai.IX 37 w).trans (Tryz.sizeOf37 w)
abbrev ALV:=λw=>(Ai.IY 37 w).trans (Tryz.zeroValue37 w)
abbrev AQa:=(Ai.und 51).trans Tryz.underlying51
abbrev rf:=(Ai.und 62).trans Tryz.underlying62
abbrev AHm:=(Ai.und 69).trans Tryz.underlying69
abbrev AHn:=λw=>(Ai.La 69 w).trans (Tryz.isAgg69 w)
abbrev AHo:=λw=>(Ai.IX 69 w).trans (Tryz.sizeOf69 w)
abbrev AHp:=λw=>(Ai.IY 69 w).trans (Tryz.zeroValue69 w)
abbrev AQb:=(Ai.und 78).trans Tryz.underlying78
abbrev AQc:=(Ai.und 80).trans Tryz.underlying80
abbrev AQd:=(Ai.und 81).trans Tryz.underlying81
abbrev AQe:=(Ai.und 84).trans Tryz.underlying84
abbrev ANz:=(Ai.und 101).trans Tryz.underlying101
abbrev IZ:=(Ai.und 112).trans Tryz.underlying112
abbrev AN0:=λw=>(Ai.La 112 w).trans (Tryz.isAgg112 w)
abbrev AN1:=λw=>(Ai.IX 112 w).trans (Tryz.sizeOf112 w)
abbrev AN2:=λw=>(Ai.IY 112 w).trans (Tryz.zeroValue112 w)
abbrev AN3:=(Ai.und 113).trans Tryz.underlying113
abbrev AHq:=(Ai.und 114).trans Tryz.underlying114
abbrev ACl:=(Ai.und 120).trans Tryz.underlying120
abbrev wJ:=(Ai.und 121).trans Tryz.underlying121
abbrev Oc:=(Ai.und 130).trans Tryz.underlying130
abbrev AHr:=λw=>(Ai.La 130 w).trans (Tryz.isAgg130 w)
abbrev AHs:=λw=>(Ai.IX 130 w).trans (Tryz.sizeOf130 w)
abbrev AHt:=λw=>(Ai.IY 130 w).trans (Tryz.zeroValue130 w)
abbrev AHu:=(Ai.und 133).trans Tryz.underlying133
abbrev AN4:=(Ai.und 138).trans Tryz.underlying138
abbrev AN5:=(Ai.und 163).trans Tryz.underlying163
abbrev AN6:=λw=>(Ai.La 163 w).trans (Tryz.isAgg163 w)
abbrev AN7:=λw=>(Ai.IX 163 w).trans (Tryz.sizeOf163 w)
abbrev AN8:=λw=>(Ai.IY 163 w).trans (Tryz.zeroValue163 w)
abbrev AN9:=(Ai.und 166).trans Tryz.underlying166
abbrev AOA:=λw=>(Ai.La 166 w).trans (Tryz.isAgg166 w)
abbrev AOB:=λw=>(Ai.IX 166 w).trans (Tryz.sizeOf166 w)
abbrev AOC:=λw=>(Ai.IY 166 w).trans (Tryz.zeroValue166 w)
abbrev AHv:=(Ai.und 178).trans Tryz.underlying178
abbrev AHw:=λw=>(Ai.La 178 w).trans (Tryz.isAgg178 w)
abbrev AHx:=λw=>(Ai.IX 178 w).trans (Tryz.sizeOf178 w)
abbrev AHy:=λw=>(Ai.IY 178 w).trans (Tryz.zeroValue178 w)
abbrev ACm:=(Ai.und 179).trans Tryz.underlying179
abbrev ACn:=λw=>(Ai.La 179 w).trans (Tryz.isAgg179 w)
abbrev ACo:=λw=>(Ai.IX 179 w).trans (Tryz.sizeOf179 w)
abbrev ACp:=λw=>(Ai.IY 179 w).trans (Tryz.zeroValue179 w)
abbrev AHz:=(Ai.und 203).trans Tryz.underlying203
abbrev AOD:=(Ai.und 205).trans Tryz.underlying205
abbrev AOE:=(Ai.und 214).trans Tryz.underlying214
abbrev AOF:=λw=>(Ai.La 214 w).trans (Tryz.isAgg214 w)
abbrev AOG:=λw=>(Ai.IX 214 w).trans (Tryz.sizeOf214 w)
abbrev AOH:=λw=>(Ai.IY 214 w).trans (Tryz.zeroValue214 w)
abbrev AH0:=(Ai.und 228).trans Tryz.underlying228
abbrev AOI:=(Ai.und 242).trans Tryz.underlying242
abbrev AOJ:=λw=>(Ai.La 242 w).trans (Tryz.isAgg242 w)
abbrev AOK:=λw=>(Ai.IX 242 w).trans (Tryz.sizeOf242 w)
abbrev AOL:=λw=>(Ai.IY 242 w).trans (Tryz.zeroValue242 w)
abbrev AOM:=(Ai.und 243).trans Tryz.underlying243
abbrev AON:=λw=>(Ai.La 243 w).trans (Tryz.isAgg243 w)
abbrev AOO:=λw=>(Ai.IX 243 w).trans (Tryz.sizeOf243 w)
abbrev AOP:=λw=>(Ai.IY 243 w).trans (Tryz.zeroValue243 w)
abbrev AOQ:=(Ai.und 248).trans Tryz.underlying248
abbrev AOR:=λw=>(Ai.La 248 w).trans (Tryz.isAgg248 w)
abbrev AOS:=λw=>(Ai.IX 248 w).trans (Tryz.sizeOf248 w)
abbrev AOT:=λw=>(Ai.IY 248 w).trans (Tryz.zeroValue248 w)
abbrev AOU:=(Ai.und 252).trans Tryz.underlying252
abbrev AOV:=λw=>(Ai.La 252 w).trans (Tryz.isAgg252 w)
abbrev AOW:=λw=>(Ai.IX 252 w).trans (Tryz.sizeOf252 w)
abbrev AOX:=λw=>(Ai.IY 252 w).trans (Tryz.zeroValue252 w)
abbrev AOY:=(Ai.und 255).trans Tryz.underlying255
abbrev AOZ:=λw=>(Ai.La 255 w).trans (Tryz.isAgg255 w)
abbrev AOa:=λw=>(Ai.IX 255 w).trans (Tryz.sizeOf255 w)
abbrev AOb:=λw=>(Ai.IY 255 w).trans (Tryz.zeroValue255 w)
abbrev AOc:=(Ai.und 257).trans Tryz.underlying257
abbrev AOd:=λw=>(Ai.La 257 w).trans (Tryz.isAgg257 w)
abbrev AOe:=λw=>(Ai.IX 257 w).trans (Tryz.sizeOf257 w)
abbrev AOf:=λw=>(Ai.IY 257 w).trans (Tryz.zeroValue257 w)
abbrev AOg:=(Ai.und 258).trans Tryz.underlying258
abbrev AOh:=λw=>(Ai.La 258 w).trans (Tryz.isAgg258 w)
abbrev AOi:=λw=>(Ai.IX 258 w).trans (Tryz.sizeOf258 w)
abbrev AOj:=λw=>(Ai.IY 258 w).trans (Tryz.zeroValue258 w)
end Go.Proofs.YtkkgcebhfghdnaaGreatDoor
namespace Go.Proofs.YtkkgcebhfghdnaaGreatDoor.Vw
open Go.RowKit
structure AZ (L:List Nat) (w w':World):Prop where
 os:w'.os=w.os
 tape:w'.tape=w.tape
 output:w'.output=w.output
 size:w.heap.size<=w'.heap.size
 block: ∀k,k<w.heap.size->k∉L->w'.heap[k]? =w.heap[k]?
section Am
variable {L M:List Nat} {a b c w w':World}
theorem AZ.refl(L:List Nat)(w:World):AZ L w w:=⟨rfl,rfl,rfl,AP _,λ_ _ _=>rfl⟩
theorem AZ.trans(h:AZ L a b)(k:AZ M b c)(hs: ∀x∈M,x∈L\/a.heap.size<=x):AZ L a c:=
 ⟨k.os.trans h.os,k.tape.trans h.tape,k.output.trans h.output,Ah h.size k.size,
  λi hi hn=>(k.block i (BU hi h.size) (λhm=>by rcases hs i hm with h1|h1;exact hn h1;omega)).trans (h.block i hi hn)⟩
theorem AZ.mono(h:AZ M a b)(hs: ∀x∈M,x∈L\/a.heap.size<=x):AZ L a b:=(AZ.refl L a).trans h hs
theorem AZ.nil(h:AZ [] a b)(L:List Nat):AZ L a b:=h.mono AY
theorem AZ.Aq(h:AZ L a b)(k:AZ [] b c):AZ L a c:=h.trans k AY
theorem AZ.drew(h:AZ L a w):AZ L a w.drew:=⟨h.os,h.tape,h.output,h.size,h.block⟩
theorem AZ.drewN(h:AZ L a w)(n:Nat):AZ L a (w.drewN n):=⟨h.os,h.tape,h.output,h.size,h.block⟩
theorem AZ.alloc(h:AZ L a w)(o:Obj):AZ L a (w.alloc o):=
 ⟨h.os,h.tape,h.output,Ah h.size AY,λk hk hn=>(Below.heap_alloc w o k (BU hk h.size)).trans (h.block k hk hn)⟩
theorem AZ.setCell(h:AZ L a w){p:Addr}(hp:p.block∈L\/a.heap.size<=p.block)(u:Value):AZ L a (w.setCell p u):=
 ⟨h.os,h.tape,h.output,by simpa[World.setCell] using h.size,λi hi hn=>(Below.heap_setCell w p u i (by
  rintro rfl;rcases hp with hp|hp;exact hn hp
  omega)).trans (h.block i hi hn)⟩
theorem AZ.of_below(h:Below w.heap.size w w')(L:List Nat):AZ L w w':=⟨h.os,h.tape,h.output,h.size,λk hk _=>h.block k hk⟩
theorem AZ.rq{row:Option Nat}(h:w.grownBy w' row):AZ row.toList w w':=
 ⟨h.os,h.tape,h.output,h.size,λk hk hn=>h.block k hk (λe=>hn (by simp[<- e]))⟩
theorem AZ.cell(h:AZ L w w'){p:Addr}{v:Value}(hc:w.cell? p=some v)(hn:p.block∉L):w'.cell? p=some v:=
 (World.cell?_of_block (h.block p.block (World.block_lt_of_cell? w p hc) hn)).trans hc
end Am
def Bo (w:World) (g:Nat) (t:TypeId) (cs:Array Value):Prop:=w.heap[g]? =some (.cells cs t (0,0))
section blk
variable {w w':World} {g:Nat} {t:TypeId} {cs:Array Value} {L:List Nat}
theorem Bo.lt(h:Bo w g t cs):g<w.heap.size:=(BK.1 h).1
theorem Bo.cell(h:Bo w g t cs)(i:Nat):w.cell? ⟨g,i,none⟩=cs[i]? :=cell_of_row w g i cs t (0,0) h
theorem Bo.frozen(h:Bo w g t cs)(i:Nat):w.frozen? ⟨g,i,none⟩=false:=by unfold Bo at h;simp[World.frozen?,h]
theorem Bo.new(w:World)(t:TypeId)(cs:Array Value):Bo (w.alloc (.cells cs t)) w.heap.size t cs:=heap_alloc_new w _
theorem Bo.Am(h:Bo w g t cs)(hc:AZ L w w')(hn:g∉L):Bo w' g t cs:=(hc.block g h.lt hn).trans h
theorem Bo.drew(h:Bo w g t cs):Bo w.drew g t cs:=h
theorem Bo.alloc(h:Bo w g t cs)(o:Obj):Bo (w.alloc o) g t cs:=(Below.heap_alloc w o g h.lt).trans h
theorem Bo.Em(h:Bo w g t cs)(i:Nat)(u:Value):Bo (w.setCell ⟨g,i,none⟩ u) g t (cs.setIfInBounds i u):=by
 unfold Bo at h⊢;simp[World.setCell,Jz,h]
theorem Bo.jM{g':Nat}{t':TypeId}{cs':Array Value}(h:Bo w g t cs)(h':Bo w g' t' cs')(ht:t≠t'):g≠g':=by
 rintro rfl;unfold Bo at h h';rw[h] at h';simp at h';exact ht h'.2
end blk
def bo (A:Option Addr):List Nat:=(A.map (·.block)).toList
@[simp] theorem Wl:bo none=[]:=rfl
@[simp] theorem AQf(a:Addr):bo (some a)=[a.block]:=rfl
theorem add_block(a:Addr)(n:Nat):(a.add n).block=a.block:=by unfold Addr.add;split<;>rfl
theorem add_add'(a:Addr)(i j:Nat):(a.add i).add j=a.add (i+j):=by
 unfold Addr.add;by_cases hi:i=0<;>by_cases hj:j=0<;>simp[hi,hj,Fj]
theorem add_zero'(g o j:Nat):(⟨g,o,none⟩:Addr).add j=⟨g,o+j,none⟩:=by unfold Addr.add;split<;>simp_all
theorem lH(a:Addr)(i j:Nat):a.add (i+(j+1))=⟨(a.add i).block,(a.add i).off+(j+1),none⟩:=by
 unfold Addr.add;by_cases hi:i=0;subst hi;simp;simp[hi,Fj]
def Rd (w:World) (sz:Nat) (A:Option Addr) (n c:Nat) (xs:List Value):Prop:=
 xs.length=n*sz/\n<=c/\c<=maxLen/\(A=none->c=0)/\∀ad,A=some ad->(0<n->ad.block<w.heap.size)/\∀j u,xs[j]? =some u->w.cell? (ad.add j)=some u
section rd
variable {w w':World} {sz n c:Nat} {A:Option Addr} {xs:List Value} {L:List Nat}
theorem Rd.nil(w:World)(sz:Nat):Rd w sz none 0 0 []:=⟨AY,AP _,BP _,λ_=>rfl,λ_ h=>by cases h⟩
theorem Rd.Am(h:Rd w sz A n c xs)(hc:AZ L w w')(hn: ∀k∈bo A,k∉L):Rd w' sz A n c xs:=
 ⟨h.1,h.2.1,h.2.2.1,h.2.2.2.1,λad e=>by
  subst e;refine⟨λhn=>BU ((h.2.2.2.2 ad rfl).1 hn) hc.size,λj u hu=>hc.cell ((h.2.2.2.2 ad rfl).2 j u hu) ?_⟩
  rw[add_block];exact hn ad.block AY⟩
theorem Rd.bT(h:Rd w 1 A n c xs){k:Nat}(hk:k<n): ∃ad u,A=some ad/\xs[k]? =some u/\w.cell? (ad.add k)=some u:=by
 have hl:k<xs.length:=by rw[h.1];omega
 cases A with|none=>have h1:=h.2.2.2.1 rfl;have h2:=h.2.1;omega|some ad=>exact⟨ad,_,rfl,Af hl,(h.2.2.2.2 ad rfl).2 _ _ (Af hl)⟩
theorem Rd.some_(h:Rd w sz A n c xs)(hk:0<n): ∃ad,A=some ad/\ad.block<w.heap.size:=by
 cases A with|none=>have h1:=h.2.2.2.1 rfl;have h2:=h.2.1;omega|some ad=>exact⟨ad,rfl,(h.2.2.2.2 ad rfl).1 hk⟩
theorem Rd.take(h:Rd w sz A n c xs){k:Nat}(hk:k<=n):Rd w sz A k c (xs.take (k*sz)):=by
 refine⟨?_,Ah hk h.2.1,h.2.2.1,h.2.2.2.1,λad e=>⟨λhp=>(h.2.2.2.2 ad e).1 Ac,λj u hu=>(h.2.2.2.2 ad e).2 j u ?_⟩⟩;rw[CB,h.1];exact DK (Ez _ hk);rw[LV] at hu;split at hu;exact hu;cases hu
end rd
def Own (w:World) (e:TypeId) (sz:Nat) (A:Option Addr) (n c:Nat) (xs:List Value):Prop:=w.ownsRow 0 e sz (.slice A n c) n xs
section own
variable {w w':World} {e:TypeId} {sz n c:Nat} {A:Option Addr} {xs:List Value} {L:List Nat}
theorem Own.nil(w:World)(e:TypeId)(sz:Nat):Own w e sz none 0 0 []:=World.ownsRow_nil w 0 e sz
theorem Own.form(h:Own w e sz A n c xs):(A=none/\n=0/\c=0/\xs=[])\/∃g cur,A=some ⟨g,0,none⟩/\Bo w g e cur/\n<=c/\c<=maxLen/\cur.size=c*sz/\cur.toList.take (n*sz)=xs:=by
 rcases h.2 with ⟨h1,h2⟩|⟨g,cap,cur,h1,_,h3,h4,h5,h6,h7⟩
 ·injection h1 with e1 e2 e3;subst e1;subst e3;subst h2;exact .inl ⟨rfl,rfl,rfl,E5 (by simpa using h.1)⟩
 injection h1 with e1 e2 e3;subst e1;subst e3;exact .inr ⟨g,cur,rfl,h3,h4,h5,h6,h7⟩
theorem Own.rd(h:Own w e sz A n c xs):Rd w sz A n c xs:=by
 rcases h.form with ⟨rfl,rfl,rfl,rfl⟩|⟨g,cur,rfl,hb,hn,hm,hs,ht⟩;exact Rd.nil w sz
 exact⟨h.1,hn,hm,(λe=>by cases e),λad e=>by
  injection e with e;subst e
  exact⟨λ_=>hb.lt,λj u hu=>World.ownsRow.cells h (g:=g) rfl j u hu⟩⟩
theorem Own.lt(h:Own w e sz A n c xs): ∀k∈bo A,k<w.heap.size:=by
 rcases h.form with ⟨rfl,rfl,rfl,rfl⟩|⟨g,cur,rfl,hb,hn,hm,hs,ht⟩;simp;intro k hk;simp at hk;subst hk;exact hb.lt
theorem Own.Am(h:Own w e sz A n c xs)(hc:AZ L w w')(hn: ∀k∈bo A,k∉L):Own w' e sz A n c xs:=by
 refine⟨h.1,?_⟩;rcases h.2 with h2|⟨g,cap,cur,h1,hb,h3,h4⟩;exact .inl h2;refine .inr ⟨g,cap,cur,h1,hb,?_,h4⟩;injection h1 with e1;subst e1;exact (hc.block g (BK.1 h3).1 (hn g AY)).trans h3
theorem Own.FZ{g:Nat}{t:TypeId}{cs:Array Value}(h:Own w e sz A n c xs)(hb:Bo w g t cs)(ht:t≠e): ∀k∈bo A,k≠g:=by
 rcases h.form with ⟨rfl,rfl,rfl,rfl⟩|⟨g',cur,rfl,hb',_⟩;simp;intro k hk;simp at hk;subst hk;exact hb'.jM hb (CJ ht)
theorem Own.own_ne{e':TypeId}{sz' n' c':Nat}{A':Option Addr}{xs':List Value}(h:Own w e sz A n c xs)(h':Own w e' sz' A' n' c' xs')(ht:e≠e'): ∀k∈bo A,k∉bo A':=by
 rcases h.form with ⟨rfl,rfl,rfl,rfl⟩|⟨g,cur,rfl,hb,_⟩;simp;rcases h'.form with ⟨rfl,rfl,rfl,rfl⟩|⟨g',cur',rfl,hb',_⟩;simp;intro k hk hk';simp at hk hk';subst hk;exact hb.jM hb' ht hk'
theorem Own.lit(w:World)(e:TypeId)(sz:Nat)(cs:Array Value)(n:Nat)(hm:n<=maxLen)(hs:cs.size=n*sz):Own (w.alloc (.cells cs e)) e sz (some ⟨w.heap.size,0,none⟩) n n cs.toList:=by
 have:=World.ownsRow_lit (base:=0) (e:=e) (size:=sz) w cs n (BP _) hm hs;exact this
theorem Own.bT(h:Own w e 1 A n c xs){k:Nat}(hk:k<n): ∃ad u,A=some ad/\xs[k]? =some u/\w.cell? (ad.add k)=some u/\w.frozen? (ad.add k)=false/\
  ∀u',Own (w.setCell (ad.add k) u') e 1 A n c (xs.set k u'):=by
 obtain⟨ad,u,hA,hx,hc⟩:=h.rd.bT hk;rcases h.form with ⟨rfl,rfl,rfl,rfl⟩|⟨g,cur,hA',hb,hn,hm,hs,ht⟩;omega;subst hA';injection hA with hA;subst hA;rw[add_zero',Dx] at hc;refine⟨_,u,rfl,hx,by rw[add_zero',Dx];exact hc,by rw[add_zero'];exact hb.frozen _,λu'=>⟨by rw[TP];exact h.1,.inr ⟨g,c,_,rfl,BP _,by rw[add_zero',Dx];exact hb.Em k u',hn,hm,by rw[Tn];exact hs,?_⟩⟩⟩;rw[<- ht,Tq,Tt]
theorem Own.cut(h:Own w e sz A n c xs){k:Nat}(hk:k<=n):Own w e sz A k c (xs.take (k*sz)):=by
 refine⟨?_,?_⟩;rw[CB,h.1];exact DK (Ez _ hk);rcases h.form with ⟨rfl,rfl,rfl,rfl⟩|⟨g,cur,rfl,hb,hn,hm,hs,ht⟩;exact .inl ⟨by rw[show k=0 by omega],Ac⟩;refine .inr ⟨g,c,cur,rfl,BP _,hb,Ac,hm,hs,?_⟩;rw[<- ht,Hw];congr 1;exact (DK (Ez _ hk)).symm
end own
def Ety (P:Program) (t e:TypeId) (sz bytes:Nat) (z:Value):Prop:=
 P.underlying t=some (.slice e)/\(∃i,P.info? e=some i/\i.zero=some z/\i.size=sz/\i.bytes=bytes)/\z.cells.size=sz/\0<sz
theorem Ety.mk'{P:Program}{t e:TypeId}{sz bytes:Nat}{z:Value}(ht:P.underlying t=some (.slice e))(h:(P.info? e).map (λi=>(i.zero,i.size,i.bytes))=some (some z,sz,bytes))(hz:z.cells.size=sz)(hp:0<sz):Ety P t e sz bytes z:=by
 obtain⟨i,h1,h2,h3,h4⟩:=info_parts h;exact⟨ht,⟨i,h1,h2,h3,h4⟩,hz,hp⟩
theorem AAU{P:Program}{t e:TypeId}{sz bytes:Nat}{z:Value}(he:Ety P t e sz bytes z){w:World}{A:Option Addr}{n c:Nat}{xs:List Value}(hrd:Rd w sz A n c xs){f g:Nat}(h1:f<=g)(h2:g<=n):
  ∃S,(∀w',(Instr.slice t (.slice A n c) (some (.int .i64 (f:Int))) (some (.int .i64 (g:Int))) none).run P w'=.ok (.slice S (g - f) (c - f)) w')/\
   Rd w sz S (g - f) (c - f) ((xs.drop (f*sz)).take ((g - f)*sz))/\∀k∈bo S,k∈bo A:=by
 obtain⟨ht,⟨i,hi,hz,hsz,hby⟩,hzs,hpos⟩:=he;have hc:=hrd.2.1;refine⟨if c=f then A else A.map (·.add (f*sz)),λw'=>?_,⟨?_,Ac,Ah (Nat.sub_le _ _) hrd.2.2.1,?_,?_⟩,?_⟩
 ·(have b1:g<=c:=by omega);simp[Instr.slice,run_underlying ht,Instr.sliceBounds,Instr.sliceBound,asIntOf,sizeOf,typeInfo,hi,hsz,b1,h1]
 rw[CB,E8,hrd.1,<- Nat.sub_mul];exact DK (Ez _ Ac)
 ·intro hn;split at hn;omega
  cases A with|none=>have:=hrd.2.2.2.1 rfl;omega|some ad=>cases hn
 ·intro ad ha;split at ha
  ·subst ha;refine⟨λhp=>by omega,λj u hu=>?_⟩;rw[show g - f=0 by omega] at hu;simp at hu
  cases A with
  |none=>cases ha|some a0=>
   simp at ha;subst ha;refine⟨λhp=>by rw[add_block];exact (hrd.2.2.2.2 a0 rfl).1 Ac,λj u hu=>?_⟩;rw[add_add'];refine (hrd.2.2.2.2 a0 rfl).2 _ u ?_;rw[LV] at hu;split at hu;rw[LW] at hu;exact hu;cases hu
 intro k hk;split at hk;exact hk
 cases A with|none=>simp at hk|some a0=>simpa[add_block] using hk
theorem AAV{P:Program}{w:World}{t ty e:TypeId}{sz bytes:Nat}{z:Value}(he:Ety P t e sz bytes z){A:Option Addr}{n c:Nat}{xs:List Value}(hown:Own w e sz A n c xs)
  {A2:Option Addr} {m c2:Nat} {news:List Value} (hrd:Rd w sz A2 m c2 news) (h1: ∀u∈news,u.oneCell'=true) (h63:n+m<=maxLen) (hb:(n+m)*bytes<=140737488355328):
  ∃A' c' w',(Builtin.append_ #[t,t] ty #[.slice A n c,.slice A2 m c2]).run P w=.ok (.slice A' (n+m) c') w'/\Own w' e sz A' (n+m) c' (xs++news)/\AZ (bo A) w w'/\
   (∀k∈bo A',k∈bo A\/(w.heap.size<=k/\k<w'.heap.size))/\(A'=none->A=none/\m=0):=by
 obtain⟨ht,⟨i,hi,hz,hsz,hby⟩,hzs,hpos⟩:=he
 cases A2 with
 |none=>
  have hc0:=hrd.2.2.2.1 rfl;(have hm0:m=0:=by have:=hrd.2.1;omega);subst hm0;subst hc0;have hn:news=[]:=E5 (by simpa using hrd.1);subst hn;refine⟨A,c,w,?_,by simpa using hown,AZ.refl _ _,λk hk=>.inl hk,λe=>⟨e,rfl⟩⟩;simpa using run_append_owned_none (P:=P) (w:=w) 0 t ty e i sz ht hi _ n xs hown
 |some ad=>
  obtain⟨v',w',hr,hown',hg,hnil⟩:=run_append_own (P:=P) w 0 t ty e i z sz bytes ht hi hz hsz hby hzs hpos _ n xs hown ad m c2 news hrd.1 (hrd.2.2.2.2 ad rfl).2 h1 h63 hb (BP _)
  have hform: ∃A' c',v'=.slice A' (n+m) c':=by
   rcases hown'.2 with ⟨h1,h2⟩|⟨g,cap,cur,h1,_⟩;exact⟨none,0,by rw[h1,h2]⟩;exact⟨_,_,h1⟩
  obtain⟨A',c',rfl⟩:=hform;(have hrow:(Value.slice A n c).ownBlock.toList=bo A:=by cases A<;>rfl);refine⟨A',c',w',hr,hown',by have:=AZ.rq hg;rwa[hrow] at this,?_,?_⟩
  ·
   intro k hk;have hk':k<w'.heap.size:=Own.lt hown' k hk;by_cases hin:k∈bo A;exact .inl hin;right;refine⟨?_,hk'⟩;rcases Gg k w.heap.size with hlt|hge
   ·
    exfalso
    have key: ∀A' c' w',(Builtin.append_ #[t,t] ty #[.slice A n c,.slice (some ad) m c2]).run P w=.ok (.slice A' (n+m) c') w'->∀k∈bo A',k∈bo A\/w.heap.size<=k:=by
     intro A' c' w' hr';rcases hown.form with ⟨rfl,rfl,rfl,rfl⟩|⟨g,cur,rfl,hbk,hnc,hcm,hcs,htk⟩
     ·by_cases hm:m=0
      ·subst hm;have hn:news=[]:=E5 (by simpa using hrd.1);subst hn
       have e0:(Builtin.append_ #[t,t] ty #[.slice none 0 0,.slice (some ad) 0 c2]).run P w=.ok (.slice none 0 0) w:=by
        simp[Builtin.append_,run_underlying ht,sizeOf,typeInfo,hi,Builtin.lenOf,Builtin.firstCells,loadCells,loadCellsFrom]
       rw[e0] at hr';simp at hr';intro k hk;rw[<- hr'.1.1] at hk;simp at hk
      have e0:=run_append_nil (P:=P) w t ty e i z ht hi hz ad m c2 news (by rw[hsz];exact hrd.1) (hrd.2.2.2.2 ad rfl).2 Ac (by simp only[maxLen] at h63;omega) (by have hb:=hb;rw[hby];simp only[Dx] at hb;omega);rw[e0] at hr';simp at hr';intro k hk;rw[<- hr'.1.1] at hk;simp at hk;right;omega
     by_cases hroom:n+m<=c
     ·(have hfit:n*i.size+news.length<=cur.size:=by rw[hrd.1,hcs,hsz,<- JH];exact Ez _ hroom);have e0:=run_append_room (P:=P) w t ty e i ht hi g n c cur hbk ad m c2 news (by rw[hsz];exact hrd.1) (hrd.2.2.2.2 ad rfl).2 h1 hroom hfit;rw[e0] at hr';simp at hr';intro k hk;rw[<- hr'.1.1] at hk;simp at hk;left;simp[hk]
     have e0:=run_append_grow (P:=P) w t ty e i z ht hi hz ⟨g,0,none⟩ n c xs (by rw[hsz];exact hown.1) (hown.cells (g:=g) rfl) ad m c2 news (by rw[hsz];exact hrd.1) (hrd.2.2.2.2 ad rfl).2 Ac (by simp only[maxLen] at h63;omega) (growslice_fits Ac (by rw[hby];exact hb));rw[e0] at hr';simp at hr';intro k hk;rw[<- hr'.1.1] at hk;simp at hk;right;omega
    rcases key A' c' w' hr k hk with h1|h1;exact hin h1;omega
   exact hge
  intro e;subst e
  have hx:(n+m=0/\c'=0):=by
   rcases hown'.2 with ⟨h1,h2⟩|⟨g,cap,cur,h1,_⟩
   ·injection h1 with _ _ h3;exact⟨h2,h3⟩
   injection h1 with h1 _ _;cases h1
  have h2:=hnil.1 (by rw[hx.1,hx.2]);refine⟨?_,h2.2⟩;have:=h2.1;injection this
theorem AJu{P:Program}{w:World}{o:Oper}{a:Act}{K:Act->World->Prop}{Q:Exit->Act->World->Prop}(s x:Operand){t:TypeId}
  (ho:o.op=.call {callee:=.builtin .append,args:=#[s,x],argTypes:=#[t,t]})
  {e:TypeId} {sz bytes:Nat} {z:Value} (he:Ety P t e sz bytes z) {A:Option Addr} {n c:Nat} {xs:List Value} (hs:a.eval s=.slice A n c) (hown:Own w e sz A n c xs)
  {A2:Option Addr} {m c2:Nat} {news:List Value} (hx:a.eval x=.slice A2 m c2) (hrd:Rd w sz A2 m c2 news) (h1: ∀u∈news,u.oneCell'=true) (h63:n+m<=maxLen) (hb:(n+m)*bytes<=140737488355328)
  (h: ∀A' c' w',Own w' e sz A' (n+m) c' (xs++news)->AZ (bo A) w w'->(∀k∈bo A',k∈bo A\/(w.heap.size<=k/\k<w'.heap.size))->(A'=none->A=none/\m=0)->
   K (a.put o.dst (.slice A' (n+m) c')) w'):o.wp P a w K Q:=by
 obtain⟨A',c',w',hr,h2,h3,h4,h5⟩:=AAV (ty:=o.type) he hown hrd h1 h63 hb;unfold Oper.wp execOp;simp only[ho,resolve,invoke,builtin,Sem.run_bind,Sem.run_pure,Result.andThen_ok,BX,AL,BC,hs,hx,hr];exact h A' c' w' h2 h3 h4 h5
theorem JE{P:Program}{w:World}{ops:Array Oper}{o:Oper}{a:Act}{K:Act->World->Prop}{Q:Exit->Act->World->Prop}{E:Prop}(hgd:o.guard=none)(s x:Operand){t:TypeId}
  (ho:o.op=.call {callee:=.builtin .append,args:=#[s,x],argTypes:=#[t,t]})
  {e:TypeId} {sz bytes:Nat} {z:Value} (he:Ety P t e sz bytes z) {A:Option Addr} {n c:Nat} {xs:List Value} (hs:a.eval s=.slice A n c) (hown:Own w e sz A n c xs)
  {A2:Option Addr} {m c2:Nat} {news:List Value} (hx:a.eval x=.slice A2 m c2) (hrd:Rd w sz A2 m c2 news) (h1: ∀u∈news,u.oneCell'=true) (h63:n+m<=maxLen) (hb:(n+m)*bytes<=140737488355328)
  (h: ∀A' c' w',Own w' e sz A' (n+m) c' (xs++news)->AZ (bo A) w w'->(∀k∈bo A',k∈bo A\/(w.heap.size<=k/\k<w'.heap.size))->(A'=none->A=none/\m=0)->
   K (a.put o.dst (.slice A' (n+m) c')) w'):if Region.wanted o (yielded ops a.tmps)=true then Oper.wp P o a w K Q else E:=by
 (have hw:Region.wanted o (yielded ops a.tmps)=true:=by simp[Region.wanted,hgd]);rw[if_pos hw];exact AJu s x ho he hs hown hx hrd h1 h63 hb h
theorem Fq{P:Program}{w:World}{ops:Array Oper}{rest:List Oper}{o:Oper}{a:Act}{Q:Exit->Act->World->Prop}(hgd:o.guard=none)(s x:Operand){t:TypeId}
  (ho:o.op=.call {callee:=.builtin .append,args:=#[s,x],argTypes:=#[t,t]})
  {e:TypeId} {sz bytes:Nat} {z:Value} (he:Ety P t e sz bytes z) {A:Option Addr} {n c:Nat} {xs:List Value} (hs:a.eval s=.slice A n c) (hown:Own w e sz A n c xs)
  {A2:Option Addr} {m c2:Nat} {news:List Value} (hx:a.eval x=.slice A2 m c2) (hrd:Rd w sz A2 m c2 news) (h1: ∀u∈news,u.oneCell'=true) (h63:n+m<=maxLen) (hb:(n+m)*bytes<=140737488355328)
  (h: ∀A' c' w',Own w' e sz A' (n+m) c' (xs++news)->AZ (bo A) w w'->(∀k∈bo A',k∈bo A\/(w.heap.size<=k/\k<w'.heap.size))->(A'=none->A=none/\m=0)->
   wpList P ops Q rest (a.put o.dst (.slice A' (n+m) c')) w'):wpList P ops Q (o::rest) a w:=by
 obtain⟨A',c',w',hr,h2,h3,h4,h5⟩:=AAV (ty:=o.type) he hown hrd h1 h63 hb;refine wpList_plain hgd λK hK=>?_;unfold Oper.wp execOp;simp only[ho,resolve,invoke,builtin,Sem.run_bind,Sem.run_pure,Result.andThen_ok,BX,AL,BC,hs,hx,hr];exact hK _ _ (h A' c' w' h2 h3 h4 h5)
theorem Be:(∀(α:Type) (l:List α) (i:Nat) (h:i<l.toArray.size),l.toArray[i]=l[i]'(by simpa using h))/\(∀(α:Type) (a:α) (l:List α) (h:0<(a::l).length),(a::l)[0]=a)/\
  (∀(α:Type) (a:α) (l:List α) (i:Nat) (h:i+1<(a::l).length),(a::l)[i+1]=l[i]'(Nat.lt_of_succ_lt_succ h))/\(∀(α:Type) (l:List α) (i:Nat) (a:α),l.toArray.setIfInBounds i a=(l.set i a).toArray)/\
  (∀(α:Type) (l:List α) (a b:α),(a::l).set 0 b=b::l)/\(∀(α:Type) (l:List α) (a b:α) (n:Nat),(a::l).set (n+1) b=a::l.set n b):=
 ⟨λ_ _ _ _=>rfl,λ_ _ _ _=>rfl,λ_ _ _ _ _=>rfl,λ_ l i a=>List.setIfInBounds_toArray l i a,λ_ _ _ _=>rfl,λ_ _ _ _ _=>rfl⟩
theorem Fv:(∀(α:Type) (l:List α) (i:Nat),l.toArray[i]? =l[i]?)/\(∀(α:Type) (a:α) (l:List α) (i:Nat),(a::l)[i+1]? =l[i]?)/\(∀(α:Type) (a:α) (l:List α),(a::l)[0]? =some a):=⟨λ_ _ _=>by simp,λ_ _ _ _=>rfl,λ_ _ _=>rfl⟩
open Go.ChangeShapes Go.WideShapes Go.Deep
theorem own:ownKnob Ae.godebug=none:=by kernel_rfl
section
variable {H:Type} {enc:TypeId×Value->H} {P:Program} {w:World} {base:Nat} {spare:Nat->Bool} {held:Bool}
theorem RS{t e:TypeId}{fs:Array Field}{fuel:Nat}{cs:List Value}{x:DataW H×List MemPlace}(ht:P.underlying t=some (.slice e))(he:P.underlying e=some (.struct fs))
  (hone:oneCellFields P fs=true) (hC:P.cellsOf e=fs.size) (h:DataW.trod enc P w base spare held fuel t cs=some x):
  (cs=[.slice none 0 0]/\x=(.nil,[]))\/
  ∃(a:Addr) (len cap m:Nat) (D:Nat->DataW H) (Pl:Nat->List MemPlace),cs=[.slice (some a) len cap]/\base<=a.block/\len<=cap/\cap<=maxLen/\m=(if spare a.block then cap else len)/\
   x=(.slice ((List.range len).map D) ((List.range (m - len)).map λj=>D (len+j)),MemPlace.row a (m*fs.size)++(List.range m).flatMap Pl)/\
   ∀i,i<m->∃(ys:List (DataW H×List MemPlace)) (n:Nat),D i=.agg (ys.map (·.1))/\Pl i=ys.flatMap (·.2)/\ys.length=fs.size/\
    ∀(j:Nat) (f:Field),fs[j]? =some f->∃(v:Value) (y:DataW H×List MemPlace),w.cell? (a.add (i*fs.size+j))=some v/\ys[j]? =some y/\DataW.trod enc P w base spare held n f.type [v]=some y:=by
 rcases open_slice ht h with h0|⟨a,len,cap,m,n,D,Pl,hcs,hb,hl,hm,hmm,hx,hi⟩;exact .inl h0;refine .inr ⟨a,len,cap,m,D,Pl,hcs,hb,hl,hm,hmm,by rw[hC] at hx;exact hx,λi him=>?_⟩;obtain⟨cs',hc,ht'⟩:=hi i him;rw[hC] at hc;obtain⟨ys,n',hn',hy,hlen,hyl,hf⟩:=DataW.trod_struct he ht';obtain⟨_,hcl,hat⟩:=World.cells?_some hc;simp only[EW] at hy;refine⟨ys,n',hy.1,hy.2,hyl,λj f hj=>?_⟩;obtain⟨ho,hk⟩:=hone_of hone j f hj;have hjl:j<fs.size:=(BK.1 hj).1;have hcell:=hat j hjl;have hv:cs'[j]? =some (cs'[j]'Ac):=Af Ac;have h1:=hf j f hj;rw[ho,hk] at h1
 have hone':(cs'.drop j).take 1=[cs'[j]'Ac]:=by
  rw[Gh Ac];rfl
 rw[hone'] at h1;have hys:ys[j]? =some (ys[j]'Ac):=Af Ac;refine⟨_,_,?_,hys,h1.trans hys⟩;rw[<- Go.Deep.add_add,hcell,hv]
end
section
variable {H:Type} {enc:TypeId×Value->H} {P:Program}
theorem lI{f:Func}{s:ChangeSpec}{apart fresh handsOn again:Bool}{W W':World}{args:Array Value}{v:Value}{ds gs:List (DataW H)}{before pa pv:List MemPlace}
  (hW:DataW.Whole enc P f.params.toList s.vars apart W args.toList ds gs before)
  (hres: ∀(b:Nat) (sp:Nat->Bool) (hd:Bool),DataW.TrodAll enc P W' b sp hd f.resultTypes.toList (v.resultList f.resultTypes.size) (s.fn H (ds++gs)).results [])
  (hargs: ∀sp:Nat->Bool,(∀p∈before,sp p.block=true)->DataW.TrodAll enc P W' 0 sp true f.params.toList args.toList (s.fn H (ds++gs)).args pa)
  (hvars: ∀sp:Nat->Bool,(∀p∈before,sp p.block=true)->DataW.TrodVars enc P W' sp s.vars (s.fn H (ds++gs)).vars pv)
  (hps:before=pa++pv) (hb:Below W.heap.size W W')
  (hok: ∀(j:Nat) (t:TypeId) (r:Value),f.resultTypes[j]? =some t->(v.resultList f.resultTypes.size)[j]? =some r->Value.okWide P W' .any 0 t r):
  s.post enc P f apart fresh handsOn again W args v W':=by
 have hlt: ∀p∈before,p.block<W.heap.size:=λp hp=>hW.lt p hp;(have hold: ∀p∈before,(λb=>decide (b<W.heap.size)) p.block=true:=λp hp=>by simpa using hlt p hp);refine⟨ds,gs,before,[],pa,pv,hW,hres _ _ _,hargs _ hold,hvars _ hold,World.keptBut_mono (λp hp=>⟨hp,?_⟩) (hb.frame (· ∈before)),λ_=>?_⟩
 ·rw[hps,AU] at hp;exact Or.inr hp
 obtain⟨_,_,_,_,_,hz,hn⟩:=hW;refine⟨hok,_,_,([]++pa)++pv,⟨[]++pa,pv,trodAll_append (hargs _ (λ_ _=>rfl)) (hres _ _ _),hvars _ (λ_ _=>rfl),rfl,?_,?_⟩,?_⟩
 ·intro b off hp;(have hin:MemPlace.cell b off∈before:=by rw[hps];simpa using hp);rw[hb.frozen (hlt _ hin)];exact hz b off hin
 ·intro ha;have:=hn ha;rw[hps] at this;simpa using this
 intro p hp _;rw[hps];simpa using hp
end
theorem Vf{H:Type}(D:Nat->DataW H)(n:Nat)(f:Nat->Nat)(h: ∀i,i<n->f i<=Rows.uptoBulk (D i)):((List.range n).map f).sum<=Rows.uptoBulkAll ((List.range n).map D):=by
 have gen: ∀(l:List Nat),(∀i∈l,f i<=Rows.uptoBulk (D i))->(l.map f).sum<=Rows.uptoBulkAll (l.map D):=by
  intro l
  induction l with
  |nil=>intro _;simp[Rows.uptoBulkAll]
  |cons x r ih=>
   intro hl;have h1:=hl x AY;have h2:=ih (λi hi=>hl i (by simp[hi]));simp only[AL,List.sum_cons,Rows.uptoBulkAll];omega
 exact gen _ (λi hi=>h i (by simpa using hi))
theorem AAW{H:Type}{ds:List (DataW H)}(hk:Rows.uptoSmall H ds=true):Rows.uptoBulkAll ds<=1048576:=of_decide_eq_true hk
section
variable {H:Type} {enc:TypeId×Value->H} {P:Program}
theorem ALW{t e:TypeId}{W:World}{sp:Nat->Bool}{held:Bool}{v:Value}{d:DataW H}{p:List MemPlace}{α:Type}(F:α->Value)(G:α->Nat)
  (ht:P.underlying t=some (.slice e)) (hc:P.cellsOf e=1) (hel: ∀n (u:Value) y,DataW.trod enc P W 0 sp held n e [u]=some y->∃a,u=F a/\G a<=Rows.uptoBulk y.1)
  (hv: ∃a l c,v=.slice a l c) (h:DataW.Trod enc P W 0 sp held t v d p):
  ∃A n c,∃zs:List α,v=.slice A n c/\Rd W 1 A n c (zs.map F)/\zs.length=n/\(zs.map G).sum+1<=Rows.uptoBulk d:=by
 obtain⟨a0,l0,c0,rfl⟩:=hv;obtain⟨fuel,hf⟩:=h;rcases open_slice1 ht hc hf with ⟨hcs,hx⟩|⟨a,len,cap,m,n,V,D,Pl,hcs,hb,hl,hm,hmm,hx,hi⟩
 ·simp[Value.cells] at hcs;obtain⟨rfl,rfl,rfl⟩:=hcs;simp only[EW] at hx;obtain⟨rfl,rfl⟩:=hx;exact⟨none,0,0,[],rfl,Rd.nil _ _,rfl,by simp[Rows.uptoBulk]⟩
 simp[Value.cells] at hcs;obtain⟨rfl,rfl,rfl⟩:=hcs;simp only[EW] at hx;obtain⟨rfl,rfl⟩:=hx;(have hle:l0<=m:=by rw[hmm];split<;>omega);have hex: ∀i:Nat,i<l0->∃z:α,V i=F z/\G z<=Rows.uptoBulk (D i):=λi hil=>hel _ _ _ (hi i Ac).2
 obtain⟨Z,hZ⟩: ∃zs:List α,zs.length=l0/\∀i z,zs[i]? =some z->V i=F z/\G z<=Rows.uptoBulk (D i):=by
  have: ∀k,k<=l0->∃zs:List α,zs.length=k/\∀i z,zs[i]? =some z->V i=F z/\G z<=Rows.uptoBulk (D i):=by
   intro k
   induction k with
   |zero=>intro _;exact⟨[],rfl,λi z h=>by simp at h⟩
   |succ k ih=>
    intro hk;obtain⟨zs,h1,h2⟩:=ih Ac;obtain⟨z,hz⟩:=hex k Ac;refine⟨zs++[z],by simp[h1],λi y hy=>?_⟩;by_cases hik:i<k;rw[Dy Ac] at hy;exact h2 i y hy;rw[Bj Ac] at hy
    have h0:i=k:=by
     rcases Gg k i with h3|h3;rw[CS (by simp;omega)] at hy;cases hy;omega
    subst h0;rw[h1,DT] at hy;simp at hy;subst hy;exact hz
  exact this l0 (AP _)
 refine⟨some a,l0,c0,Z,rfl,⟨by simp[hZ.1],hl,hm,(λe=>by cases e),λad e=>?_⟩,hZ.1,?_⟩
 ·injection e with e;subst e;refine⟨λhp=>?_,λj u hu=>?_⟩
  ·have:=(hi 0 Ac).1;have:=World.block_lt_of_cell? _ _ this;rwa[add_block] at this
  rw[AV] at hu
  cases hz:Z[j]? with
  |none=>rw[hz] at hu;cases hu|some z=>
   rw[hz] at hu;simp at hu;subst hu;(have hj:j<l0:=by have:=(BB.1 hz).1;omega);rw[(hi j Ac).1,(hZ.2 j z hz).1]
 have h1:=Vf D l0 (λi=>(Z[i]?.map G).getD 0) (λi hil=>by
  have hz:Z[i]? =some (Z[i]'Ac):=Af Ac;rw[hz]
  exact (hZ.2 i _ hz).2)
 have h2:(List.range l0).map (λi=>(Z[i]?.map G).getD 0)=Z.map G:=by
  apply D6;intro i;rw[AV,AV];by_cases hil:i<l0
  ·rw[Af (by simpa using hil),Af Ac];(have AH1:i<Z.length:=by omega);simp[AH1]
  rw[CS (by simp;omega),CS Ac];rfl
 rw[h2] at h1;simp only[Rows.uptoBulk];omega
theorem AAX{e:TypeId}{k:IntKind}{W:World}{sp:Nat->Bool}{held:Bool}(he:P.underlying e=some (.int k)): ∀n (u:Value) (y:DataW H×List MemPlace),DataW.trod enc P W 0 sp held n e [u]=some y->∃a:{z:Int//(Lit.int k z).wf=true},u=Value.int k a.1/\1<=Rows.uptoBulk y.1:=λn u y h=>by
 obtain⟨z,h1,rfl,h3⟩:=DataW.trod_int he h;simp at h1;exact⟨⟨z,h3⟩,h1,by simp[Rows.uptoBulk]⟩
theorem wK{e:TypeId}{W:World}{sp:Nat->Bool}{held:Bool}(he:P.underlying e=some .bool): ∀n (u:Value) (y:DataW H×List MemPlace),DataW.trod enc P W 0 sp held n e [u]=some y->∃a:Bool,u=Value.bool a/\1<=Rows.uptoBulk y.1:=λn u y h=>by
 obtain⟨z,h1,rfl⟩:=DataW.trod_bool he h;simp at h1;exact⟨z,h1,by simp[Rows.uptoBulk]⟩
theorem AAY{α:Type}(l:List α):(l.map (λ_=>1)).sum=l.length:=by induction l with|nil=>rfl|cons x r ih=>simp[ih];omega
theorem AFJ{t e:TypeId}{k:IntKind}{W:World}{sp:Nat->Bool}{held:Bool}{v:Value}{d:DataW H}{p:List MemPlace}
  (ht:P.underlying t=some (.slice e)) (he:P.underlying e=some (.int k)) (hc:P.cellsOf e=1) (hv: ∃a l c,v=.slice a l c) (h:DataW.Trod enc P W 0 sp held t v d p):
  ∃A n c,∃zs:List Int,v=.slice A n c/\Rd W 1 A n c (zs.map (Value.int k))/\zs.length=n/\n+1<=Rows.uptoBulk d/\∀z∈zs,(Lit.int k z).wf=true:=by
 obtain⟨A,n,c,zs,h1,h2,h3,h4⟩:=ALW (λa:{z:Int//(Lit.int k z).wf=true}=>Value.int k a.1) (λ_=>1) ht hc (AAX he) hv h;rw[AAY] at h4;refine⟨A,n,c,zs.map (·.1),h1,by rw[Bq];exact h2,by simp[h3],Ac,λz hz=>?_⟩;obtain⟨a,_,rfl⟩:=Ag.1 hz;exact a.2
theorem ACq{t e:TypeId}{W:World}{sp:Nat->Bool}{held:Bool}{v:Value}{d:DataW H}{p:List MemPlace}
  (ht:P.underlying t=some (.slice e)) (he:P.underlying e=some .bool) (hc:P.cellsOf e=1) (hv: ∃a l c,v=.slice a l c) (h:DataW.Trod enc P W 0 sp held t v d p):
  ∃A n c,∃ks:List Bool,v=.slice A n c/\Rd W 1 A n c (ks.map Value.bool)/\ks.length=n/\n+1<=Rows.uptoBulk d:=by
 obtain⟨A,n,c,zs,h1,h2,h3,h4⟩:=ALW Value.bool (λ_=>1) ht hc (wK he) hv h;rw[AAY] at h4;exact⟨A,n,c,zs,h1,h2,h3,Ac⟩
theorem Wn(hl:laidOutB P=true){W W':World}(hb:Below W.heap.size W W'){sp:Nat->Bool}: ∀(ts:List TypeId) (vs:List Value) (ds:List (DataW H)) (ps:List MemPlace),
  (∀t∈ts,P.readableRec t=true/\t<P.types.size)->DataW.TrodAll enc P W 0 (λ_=>true) true ts vs ds ps->(∀x∈ps,x.block<W.heap.size)->(∀x∈ps,sp x.block=true)->DataW.TrodAll enc P W' 0 sp true ts vs ds ps
 | [],[],[],ps,_,h,_,_=>h
 |t::ts,v::vs,d::ds,ps,hr,h,hlt,hsp=>by
  obtain⟨p,q,h1,h2,rfl⟩:=h;refine⟨p,q,WideElems.Trod_stays hl (hr t AY).1 (hr t AY).2 h1 (λx hx=>hb.same (hlt x (by simp[hx]))) (λx hx=>hsp x (by simp[hx])),?_,rfl⟩;exact Wn hl hb ts vs ds q (λt ht=>hr t (by simp[ht])) h2 (λx hx=>hlt x (by simp[hx])) (λx hx=>hsp x (by simp[hx]))
theorem AFK{fn:Func}{s:ChangeSpec}{tb:TypeId}{W W':World}{args:Array Value}{ds gs:List (DataW H)}{before:List MemPlace}
  (hl:laidOutB P=true) (hW:DataW.Whole enc P fn.params.toList s.vars false W args.toList ds gs before) (hvars:s.vars=[]) (hrt:fn.resultTypes= #[tb]) (htb:P.underlying tb=some .bool)
  (hrd: ∀t∈fn.params.toList,P.readableRec t=true/\t<P.types.size)
  (hres:(s.fn H (ds++gs)).results=[.lit (.bool true)]) (hargs:(s.fn H (ds++gs)).args=ds) (hvs:(s.fn H (ds++gs)).vars=[]) (hb:Below W.heap.size W W'):
  s.post enc P fn false true false false W args (.bool true) W':=by
 have hW':=hW;obtain⟨p,q,hA,hV,rfl,hfz,hnd⟩:=hW;rw[hvars] at hV;obtain⟨rfl,rfl⟩:=trodVars_none hV;have hlt: ∀x∈p,x.block<W.heap.size:=λx hx=>hW'.lt x (by simp[hx]);refine lI (pa:=p) (pv:=[]) hW' (λ_ _ _=>?_) (λsp hsp=>?_) (λsp _=>?_) AY hb ?_
 ·rw[hrt,hres];exact trodAll_mk1 (shut_bool htb _)
 ·rw[hargs];exact Wn hl hb _ _ _ _ hrd hA hlt (λx hx=>hsp x (by simp[hx]))
 rw[hvars,hvs];rfl;intro j t r hj hr;rw[hrt] at hj hr
 match j,hj,hr with
 |0,hj,hr=>
  simp[Value.resultList] at hj hr;subst hj;subst hr;exact okWide_bool_mk htb _
end
structure ru (P:Program) (kt:TypeId) {κ:Type} [DecidableEq κ] (kv:κ->Value):Prop where
 find: ∀(k:κ) (es:List MapEntry) (ks:List κ) (w:World),es.map (·.key)=ks.map kv->(Instr.findKey kt (kv k) es).run P w=.ok ((ks.idxOf? k).bind λi=>(es[i]?).map λe=>(i,e.val)) w
 check: ∀(k:κ) (e:Bool) (w:World),(Instr.checkKey e 10000 kt (kv k)).run P w=.ok () w
 bits: ∀(k:κ),Instr.sameBits 10000 (kv k) (kv k)=true
 inj: ∀a b:κ,kv a=kv b->a=b
structure wL (P:Program) (kt:TypeId) {κ:Type} [DecidableEq κ] (kv:κ->Value) (w:World) (k:κ) (ks:List κ):Prop where
 find: ∀es:List MapEntry,es.map (·.key)=ks.map kv->(Instr.findKey kt (kv k) es).run P w=.ok ((ks.idxOf? k).bind λi=>(es[i]?).map λe=>(i,e.val)) w
 check: ∀e:Bool,(Instr.checkKey e 10000 kt (kv k)).run P w=.ok () w
 bits:Instr.sameBits 10000 (kv k) (kv k)=true
theorem ru.at_{P:Program}{kt:TypeId}{κ:Type}[DecidableEq κ]{kv:κ->Value}(h:ru P kt kv)(w:World)(k:κ)(ks:List κ):wL P kt kv w k ks:=⟨λes he=>h.find k es ks w he,λe=>h.check k e w,h.bits k⟩
theorem findNow_spec{kind:TypeDesc}{κ:Type}[DecidableEq κ]{kv:κ->Value}(h: ∀a b:κ,Instr.sameNow kind (kv a) (kv b)=some (decide (a=b)))(k:κ): ∀(es:List MapEntry) (ks:List κ) (i:Nat),es.map (·.key)=ks.map kv->
  Instr.findNow kind (kv k) es i=some ((ks.idxOf? k).bind λj=>(es[j]?).map λe=>(i+j,e.val))
 | [],[],i,_=>by simp[Instr.findNow]| [],k'::ks,i,he=>by simp at he|e::es,[],i,he=>by simp at he
 |e::es,k'::ks,i,he=>by
  simp only[AL,DJ] at he;unfold Instr.findNow;rw[he.1,h];by_cases hk:k=k'
  ·subst hk;rw[En,beq_self_eq_true];simp
  simp only[hk,decide_false];rw[findNow_spec h k es ks (i+1) he.2,En];(have:(k'==k)=false:=by simp;exact λe=>hk e.symm);rw[this]
  cases ks.idxOf? k with
  |none=>rfl|some j=>
   simp[Fj,LK 1 j]
theorem Cm{P:Program}{kt:TypeId}(h:P.underlying kt=some .string):ru P kt (λz:ByteArray=>Value.string z) where
 find:=λk es ks w he=>by
  have:=findNow_spec (kind:=.string) (kv:=λz:ByteArray=>Value.string z) (λa b=>by
   simp only[Instr.sameNow,BD]
   rw[J3,MapKept.bytes_beq];simp) k es ks 0 he
  simp only[Dx] at this;simp[Instr.findKey,run_underlying h,this]
 check:=λk e w=>by
  show (Instr.checkKey e (9999+1) kt (.string k)).run P w=_;unfold Instr.checkKey;simp[run_underlying h]
 bits:=λk=>by simp only[Instr.sameBits];exact (MapKept.bytes_beq k k).2 rfl
 inj:=λa b h=>by injection h
theorem RU{α β:Type}(f:α->β)(l:List α)(i:Nat):(l.map f).eraseIdx i=(l.eraseIdx i).map f:=by
 induction l generalizing i with
 |nil=>rfl
 |cons x r ih=>cases i with
  |zero=>rfl|succ i=>simp[ih]
section lists
variable {κ α:Type} [DecidableEq κ]
def BJ (m:List (κ×α)) (k:κ):Option α:=((m.map Prod.fst).idxOf? k).bind λi=>(m[i]?).map (·.2)
def Dp (m:List (κ×α)) (k:κ) (v:α):List (κ×α):=match (m.map Prod.fst).idxOf? k with
 |some i=>m.set i (k,v)|none=>m++[(k,v)]
def Ii (m:List (κ×α)) (k:κ):List (κ×α):=match (m.map Prod.fst).idxOf? k with
 |some i=>m.eraseIdx i|none=>m
theorem JS{l:List κ}{x:κ}{i:Nat}(h:l.idxOf? x=some i):l[i]? =some x:=by
 induction l generalizing i with
 |nil=>simp at h|cons y r ih=>
  simp only[En] at h;split at h
  ·rename_i hxy;(cases h);simp at hxy;simp[hxy]
  cases hr:r.idxOf? x with
  |none=>rw[hr] at h;simp at h|some k=>
   rw[hr] at h;simp at h;subst h;simpa using ih hr
theorem RV{l:List κ}{x:κ}:l.idxOf? x=none↔x∉l:=by
 induction l with
 |nil=>simp|cons y r ih=>
  simp only[En,AA,not_or];split
  ·rename_i h;simp at h;simp[h]
  rename_i h;(have h': ¬x=y:=by intro e;exact h (by simp[e]));rw[Option.map_eq_none_iff,ih];simp[h']
theorem AAZ{l:List κ}(hn:l.Nodup){i:Nat}{x:κ}(h:l[i]? =some x):l.idxOf? x=some i:=by
 have hm:x∈l:=Aa h
 cases hx:l.idxOf? x with
 |none=>exact absurd hm (RV.1 hx)|some k=>
  have hk:=JS hx;have hkl:=(BB.1 hk).1;have:=(List.getElem?_inj (i:=k) (j:=i) hkl hn).1 (by rw[hk,h]);rw[this]
theorem CP{m:List (κ×α)}{k:κ}{v:α}(h:BJ m k=some v):(k,v)∈m:=by
 unfold BJ at h
 cases hx:(m.map Prod.fst).idxOf? k with
 |none=>rw[hx] at h;cases h|some i=>
  rw[hx] at h;simp only[Option.bind_some] at h;have h1:=JS hx;rw[AV] at h1
  cases hm:m[i]? with
  |none=>rw[hm] at h;cases h|some p=>
   rw[hm] at h h1;simp at h h1;have:=Aa hm;rw[<- h1,<- h];exact this
theorem Qh{m:List (κ×α)}{k:κ}{v:α}(hn:(m.map Prod.fst).Nodup)(h:(k,v)∈m):BJ m k=some v:=by
 obtain⟨i,hi⟩:=Eo h;(have:(m.map Prod.fst)[i]? =some k:=by rw[AV,hi];rfl);unfold BJ;rw[AAZ hn this];simp[hi]
theorem Fa{m:List (κ×α)}{k:κ}:BJ m k=none↔k∉m.map Prod.fst:=by
 unfold BJ;constructor
 ·intro h
  cases hx:(m.map Prod.fst).idxOf? k with
  |none=>exact RV.1 hx|some i=>
   rw[hx] at h;have h1:=JS hx;rw[AV] at h1;simp only[Option.bind_some] at h
   cases hm:m[i]? with|none=>rw[hm] at h1;cases h1|some p=>rw[hm] at h;cases h
 intro h;rw[RV.2 h];rfl
theorem Oe{m:List (κ×α)}(hn:(m.map Prod.fst).Nodup)(k:κ)(v:α):((Dp m k v).map Prod.fst).Nodup:=by
 unfold Dp
 cases hx:(m.map Prod.fst).idxOf? k with
 |none=>
  simp only[Bf,AL,BC];rw[EN];exact⟨hn,AY,λa ha b hb=>by simp at hb;subst hb;rintro rfl;exact RV.1 hx ha⟩
 |some i=>
  have h1:=JS hx;simp only[Hz]
  have:(m.map Prod.fst).set i k=m.map Prod.fst:=by
   apply D6;intro j;rw[Gi];split
   ·rename_i hij;subst hij;rw[if_pos (BB.1 h1).1,h1]
   rfl
  rw[this];exact hn
theorem RX{m:List (κ×α)}(hn:(m.map Prod.fst).Nodup)(k k':κ)(v:α):BJ (Dp m k v) k'=if k=k' then some v else BJ m k':=by
 have hn':=Oe hn k v;by_cases h:k=k'
 ·subst h;rw[if_pos rfl];apply Qh hn';unfold Dp
  cases hx:(m.map Prod.fst).idxOf? k with
  |none=>simp|some i=>
   have h1:=(BB.1 (JS hx)).1;simp at h1;exact Aa (i:=i) (by rw[Gi,if_pos rfl,if_pos h1])
 rw[if_neg h]
 cases hg:BJ m k' with
 |some u=>
  apply Qh hn';have hm:=CP hg;unfold Dp
  cases hx:(m.map Prod.fst).idxOf? k with
  |none=>simp[hm]|some i=>
   obtain⟨j,hj⟩:=Eo hm;have h1:=JS hx;refine Aa (i:=j) ?_;rw[Gi];split
   ·rename_i hij;subst hij;rw[AV,hj] at h1;simp at h1;exact absurd h1.symm h
   exact hj
 |none=>
  rw[Fa] at hg⊢;unfold Dp
  cases hx:(m.map Prod.fst).idxOf? k with
  |none=>
   simp only[Bf,AL,BC,AU,Ad,not_or];exact⟨hg,λe=>h e.symm⟩
  |some i=>
   intro hm;simp only[Hz] at hm;rcases JV hm with h2|h2;exact hg h2;exact h h2.symm
end lists
def Mp {κ:Type} (w:World) (b:Nat) (kv:κ->Value) (m:List (κ×Value)):Prop:=
 ∃es clock,w.heap[b]? =some (.map es clock)/\es.toList.map (λe=>(e.key,e.val))=m.map (λp=>(kv p.1,p.2))/\(m.map Prod.fst).Nodup/\(es.toList.map (·.born)).Nodup/\∀e∈es.toList,e.born<clock
section mp0
variable {κ:Type} {w w':World} {b:Nat} {kv:κ->Value} {m:List (κ×Value)} {L:List Nat}
theorem Mp.lt(h:Mp w b kv m):b<w.heap.size:=by
 obtain⟨es,c,hb,_⟩:=h;exact (BK.1 hb).1
theorem Mp.Am(h:Mp w b kv m)(hc:AZ L w w')(hn:b∉L):Mp w' b kv m:=by
 have hl:=h.lt;obtain⟨es,c,hb,hr⟩:=h;exact⟨es,c,(hc.block b hl hn).trans hb,hr⟩
theorem Mp.nodup(h:Mp w b kv m):(m.map Prod.fst).Nodup:=by
 obtain⟨es,c,_,_,h3,_⟩:=h;exact h3
theorem Mp.made(w:World)(kv:κ->Value):Mp (w.alloc (.map #[] 0)) w.heap.size kv []:=⟨#[],0,(MapKept.heap_alloc w _).1,AY,AY,AY,AY⟩
theorem Mp.keys{es:Array MapEntry}(h:es.toList.map (λe=>(e.key,e.val))=m.map (λp=>(kv p.1,p.2))):es.toList.map (·.key)=(m.map Prod.fst).map kv:=by
 have:=congrArg (List.map Prod.fst) h;rw[Bq,Bq] at this;rw[Bq];exact this
end mp0
section mp
variable {κ:Type} [DecidableEq κ] {P:Program} {w w':World} {b:Nat} {kv:κ->Value} {m:List (κ×Value)}
theorem Mp.sD(h:Mp w b kv m){t kt e:TypeId}(k:κ)(hK:wL P kt kv w k (m.map Prod.fst))(ht:P.underlying t=some (.map kt e)){z:Value}(hz:(zeroValue e).run P w=.ok z w):
  (Instr.lookup t (.map (some b)) (kv k) false).run P w=.ok ((BJ m k).getD z) w/\
  (Instr.lookup t (.map (some b)) (kv k) true).run P w=.ok (.tuple #[(BJ m k).getD z,.bool (BJ m k).isSome]) w:=by
 obtain⟨es,c,hb,he,_⟩:=h;have hf:=hK.find es.toList (Mp.keys he)
 have hv: ∀i:Nat,(es.toList[i]?).map (λe:MapEntry=>e.val)=(m[i]?).map (λp:κ×Value=>p.2):=λi=>by
  have:=congrArg (λl=>(l[i]?).map Prod.snd) he;simp only[AV,Option.map_map] at this;exact this
 have hrun:(getObj b).run P w=.ok (.map es c) w:=by simp[getObj,Sem.run,hb]
 have key: ∀(ok:Bool),(Instr.lookup t (.map (some b)) (kv k) ok).run P w=.ok (if ok then .tuple #[(BJ m k).getD z,.bool (BJ m k).isSome] else (BJ m k).getD z) w:=by
  intro ok;unfold Instr.lookup BJ;simp only[Sem.run_bind,run_underlying ht,Result.andThen_ok,hrun,Sem.run_pure,hK.check,hf]
  cases hx:(m.map Prod.fst).idxOf? k with
  |none=>cases ok<;>simp[hz]|some i=>
   have h1:=JS hx;rw[AV] at h1;have:=hv i
   cases Xx:m[i]? with
   |none=>rw[Xx] at h1;cases h1|some p=>
    rw[Xx] at this
    cases OD:es.toList[i]? with
    |none=>rw[OD] at this;cases this|some e0=>
     rw[OD] at this;simp at this;(have AQg:es[i]? =some e0:=by simpa using OD);cases ok<;>simp[AQg,Xx,this]
 exact⟨key false,key true⟩
theorem Mp.lookup(h:Mp w b kv m){t kt e:TypeId}(hK:ru P kt kv)(ht:P.underlying t=some (.map kt e)){z:Value}(hz:(zeroValue e).run P w=.ok z w)(k:κ):
  (Instr.lookup t (.map (some b)) (kv k) false).run P w=.ok ((BJ m k).getD z) w/\
  (Instr.lookup t (.map (some b)) (kv k) true).run P w=.ok (.tuple #[(BJ m k).getD z,.bool (BJ m k).isSome]) w:=h.sD k (hK.at_ w k _) ht hz
theorem Mp.bU(h:Mp w b kv m){t kt e:TypeId}(k:κ)(hK:wL P kt kv w k (m.map Prod.fst))(ht:P.underlying t=some (.map kt e))(v:Value):
  ∃w',(Instr.mapUpdate t (.map (some b)) (kv k) v).run P w=.ok () w'/\Mp w' b kv (Dp m k v)/\AZ [b] w w':=by
 obtain⟨es,c,hb,he,hn,hs,hc⟩:=h;have hf:=hK.find es.toList (Mp.keys he);(have hrun:(getObj b).run P w=.ok (.map es c) w:=by simp[getObj,Sem.run,hb]);have hlt:b<w.heap.size:=(BK.1 hb).1;have hset: ∀o:Obj,(setObj b o).run P w=.ok () {w with heap:=w.heap.setIfInBounds b o}:=λo=>by simp[setObj,Sem.run,hb]
 have EJ: ∀o:Obj,AZ [b] w {w with heap:=w.heap.setIfInBounds b o}:=λo=>⟨rfl,rfl,rfl,AY,λi hi hne=>by
  simp only[N8]
  rw[if_neg (λe=>hne (by simp[e]))]⟩
 have hat: ∀o:Obj,({w with heap:=w.heap.setIfInBounds b o}:World).heap[b]? =some o:=λo=>by simp[hlt]
 cases hx:(m.map Prod.fst).idxOf? k with
 |none=>
  refine⟨_,?_,⟨es.push {key:=kv k,val:=v,born:=c},c+1,hat _,?_,Oe hn k v,?_,?_⟩,EJ _⟩
  ·unfold Instr.mapUpdate;simp only[Sem.run_bind,run_underlying ht,Result.andThen_ok,hrun,hK.check,hf,hx];simp[hset]
  simp only[Dp,hx,LX,Bf,he,AL,BC]
  ·simp only[LX,Bf,AL,BC];rw[EN];refine⟨hs,AY,λa ha b' hb'=>?_⟩;obtain⟨e0,he0,rfl⟩:=Ag.1 ha;simp at hb';subst hb';have:=hc e0 he0;omega
  intro e0 he0;simp only[LX,AU,Ad] at he0;rcases he0 with he0|rfl;have:=hc e0 he0;omega;simp
 |some i=>
  have h1:=JS hx
  have hil:i<es.size:=by
   have:=(BB.1 h1).1;have e2:=congrArg List.length he;simp at this e2;omega
  have OD:es[i]? =some es[i]:=Ba hil
  have hkey:(es[i]).key=kv k:=by
   have e3:=congrArg (λl=>l[i]?) (Mp.keys he);simp only[AV,G8,OD] at e3;rw[AV] at h1
   cases Xx:m[i]? with
   |none=>rw[Xx] at h1;cases h1|some p=>
    rw[Xx] at e3 h1;simp at e3 h1;rw[e3,h1]
  have hml:(es.modify i λe=>{e with key:=kv k,val:=v}).toList=es.toList.set i {es[i] with key:=kv k,val:=v}:=by
   apply D6;intro j;rw[G8,Jz,Gi,G8];by_cases hij:i=j;subst hij;simp[hil];rw[if_neg hij,if_neg hij]
  refine⟨_,?_,⟨es.modify i λe=>{e with key:=kv k,val:=v},c,hat _,?_,Oe hn k v,?_,?_⟩,EJ _⟩
  ·unfold Instr.mapUpdate;simp only[Sem.run_bind,run_underlying ht,Result.andThen_ok,hrun,hK.check,hf,hx];(have AOl:(Instr.keyThatStays (kv k) (kv k)).run P w=.ok (kv k) w:=by simp[Instr.keyThatStays,hK.bits]);simp[OD,hkey,AOl,hset]
  ·rw[hml];simp only[Dp,hx,Hz,he]
  ·rw[hml,Hz]
   have:(es.toList.map (·.born)).set i (es[i]).born=es.toList.map (·.born):=by
    apply D6;intro j;rw[Gi];split
    ·rename_i hij;subst hij;simp[hil]
    rfl
   rw[this];exact hs
  intro e0 he0;rw[hml] at he0;rcases JV he0 with h2|h2;exact hc e0 h2;subst h2;exact hc es[i] AY
theorem Mp.update(h:Mp w b kv m){t kt e:TypeId}(hK:ru P kt kv)(ht:P.underlying t=some (.map kt e))(k:κ)(v:Value):
  ∃w',(Instr.mapUpdate t (.map (some b)) (kv k) v).run P w=.ok () w'/\Mp w' b kv (Dp m k v)/\AZ [b] w w':=h.bU k (hK.at_ w k _) ht v
theorem Mp.del(h:Mp w b kv m){t kt e ty:TypeId}(hK:ru P kt kv)(ht:P.underlying t=some (.map kt e))(k:κ)(at2:TypeId):
  ∃w',(Builtin.delete_ #[t,at2] ty #[.map (some b),kv k]).run P w=.ok (.tuple #[]) w'/\Mp w' b kv (Ii m k)/\AZ [b] w w':=by
 obtain⟨es,c,hb,he,hn,hs,hc⟩:=h;have hf:=hK.find k es.toList _ w (Mp.keys he);(have hrun:(getObj b).run P w=.ok (.map es c) w:=by simp[getObj,Sem.run,hb]);have hlt:b<w.heap.size:=(BK.1 hb).1;have hset: ∀o:Obj,(setObj b o).run P w=.ok () {w with heap:=w.heap.setIfInBounds b o}:=λo=>by simp[setObj,Sem.run,hb]
 have EJ: ∀o:Obj,AZ [b] w {w with heap:=w.heap.setIfInBounds b o}:=λo=>⟨rfl,rfl,rfl,AY,λi hi hne=>by
  simp only[N8]
  rw[if_neg (λe=>hne (by simp[e]))]⟩
 have hat: ∀o:Obj,({w with heap:=w.heap.setIfInBounds b o}:World).heap[b]? =some o:=λo=>by simp[hlt]
 cases hx:(m.map Prod.fst).idxOf? k with
 |none=>
  refine⟨_,?_,⟨es,c,hat _,by simp only[Ii,hx,he],by simp only[Ii,hx];exact hn,hs,hc⟩,EJ _⟩;unfold Builtin.delete_;simp[run_underlying ht,hrun,hK.check,hf,hx,hset]
 |some i=>
  have h1:=JS hx
  have hil:i<es.size:=by
   have:=(BB.1 h1).1;have e2:=congrArg List.length he;simp at this e2;omega
  have OD:es[i]? =some es[i]:=Ba hil
  have hel:(es.eraseIdxIfInBounds i).toList=es.toList.eraseIdx i:=by
   rw[Array.eraseIdxIfInBounds,dif_pos hil,Array.toList_eraseIdx]
  refine⟨_,?_,⟨es.eraseIdxIfInBounds i,c,hat _,?_,?_,?_,?_⟩,EJ _⟩
  ·unfold Builtin.delete_;simp[run_underlying ht,hrun,hK.check,hf,hx,hset,OD]
  ·rw[hel];simp only[Ii,hx,<- RU,he]
  ·simp only[Ii,hx,<- RU];exact hn.sublist (LY _ _)
  ·rw[hel,<- RU];exact hs.sublist (LY _ _)
  intro e0 he0;rw[hel] at he0;exact hc e0 ((LY _ _).subset he0)
end mp
end Go.Proofs.YtkkgcebhfghdnaaGreatDoor.Vw
