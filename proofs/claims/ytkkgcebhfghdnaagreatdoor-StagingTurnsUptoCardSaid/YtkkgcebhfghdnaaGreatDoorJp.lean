/- Part 16 of what that rests on; no condition. -/
import Derived.Test.YtkkgcebhfghdnaaGreatDoorJj
import Derived.ChangeSame
import Derived.Deep.AppendLies
import Derived.Deep.Draws
import Derived.Deep.Fields
import Derived.Deep.Slices
import Derived.JoinedCond
import Derived.Lib.Hide
import Derived.MapKept
import Derived.OpenShut
import Derived.ProofKit
import Derived.Test.YtkkgcebhfghdnaaGreatDoorRows
import Derived.WalkKit
set_option maxRecDepth 100000
set_option maxHeartbeats 8000000
open Go.World renaming block_lt_of_cell?→UC, setCell→Xw
open Go.Instr renaming keyThatStays→AAe, mapUpdate→gZ, checkKey→Ua, sameBits→Qn, findKey→Xz, lookup→PY, slice→Vs
open Go.Result renaming andThen_ok→Om
open Option renaming bind_some→Vx, none→AB, some→AA
open Go.Builtin renaming append_→PX, delete_→rY
open Go renaming run_underlying→IG, MapEntry→Dp, MemPlace→GN, Program→BL, TypeId→Aj, setObj→I5, maxLen→EO, Value→AP, World→AL, DataW→Dl, Addr→Ag
open Go.Region renaming wanted→DV
open Go.Sem renaming run_bind→Eh, run_pure→Yf, run→Dq
open Go.Value renaming cells→Nc, int→KU
open List renaming length→KX, range→FZ
open Go.Addr renaming add→Tt
open Prod renaming fst→Aa
namespace Go.Proofs.YtkkgcebhfghdnaaGreatDoor
open Go
theorem BX{f:FuncId}{fn:Func}(h:Af.funcs[f]? =AA fn)(hb:fn.body.isNone=false)(hn:(fn.name== "runtime.NumGoroutine")=false)(p:Array AP)(w:AL):(callFunc f p).run Af w=.ok (.enter f p) w:=by
 unfold callFunc;simp only[Eh];have:(program).run Af w=.ok Af w:=rfl;rw[this];simp only[Om,h,hb,hn,C9,if_false];rfl
theorem BQ{f:FuncId}{fn:Func}(h:f≠47/\f≠46/\f≠79)(k:Tryz.prog.funcs[f]? =AA fn):Af.funcs[f]? =AA fn:=(Ah.same h).trans k
abbrev VF4:=BQ Ar Tryz.func4
abbrev VF8:=BQ Ar Tryz.func8
abbrev VF9:=BQ Ar Tryz.func9
abbrev AFo:=BQ Ar Tryz.func10
abbrev AMb:=BQ Ar Tryz.func13
abbrev AMc:=BQ Ar Tryz.func14
abbrev AMd:=BQ Ar Tryz.func15
abbrev AMe:=BQ Ar Tryz.func16
abbrev AMf:=BQ Ar Tryz.func17
abbrev AJF:=BQ Ar Tryz.func18
abbrev AMg:=BQ Ar Tryz.func19
abbrev AMh:=BQ Ar Tryz.func20
abbrev AMi:=BQ Ar Tryz.func21
abbrev AMj:=BQ Ar Tryz.func24
abbrev AMk:=BQ Ar Tryz.func28
abbrev AMl:=BQ Ar Tryz.func31
abbrev AMm:=BQ Ar Tryz.func32
abbrev AMn:=BQ Ar Tryz.func35
abbrev AFp:=BQ Ar Tryz.func36
abbrev AJG:=BQ Ar Tryz.func37
abbrev AJH:=BQ Ar Tryz.func38
abbrev AJI:=BQ Ar Tryz.func39
abbrev AJJ:=BQ Ar Tryz.func40
abbrev AMo:=BQ Ar Tryz.func41
abbrev AMp:=BQ Ar Tryz.func42
abbrev AMq:=BQ Ar Tryz.func43
abbrev AMr:=BQ Ar Tryz.func44
abbrev AMs:=BQ Ar Tryz.func45
abbrev AMt:=BQ Ar Tryz.func48
abbrev AMu:=BQ Ar Tryz.func49
abbrev AMv:=BQ Ar Tryz.func50
abbrev AMw:=BQ Ar Tryz.func51
abbrev AMx:=BQ Ar Tryz.func52
abbrev AMy:=BQ Ar Tryz.func53
abbrev AMz:=BQ Ar Tryz.func54
abbrev AM0:=BQ Ar Tryz.func55
abbrev AM1:=BQ Ar Tryz.func56
abbrev AM2:=BQ Ar Tryz.func57
abbrev ABo:=BQ Ar Tryz.func58
abbrev AM3:=BQ Ar Tryz.func59
abbrev AM4:=BQ Ar Tryz.func60
abbrev AJK:=BQ Ar Tryz.func61
abbrev AM5:=BQ Ar Tryz.func62
abbrev AM6:=BQ Ar Tryz.func63
abbrev AM7:=BQ Ar Tryz.func64
abbrev AM8:=BQ Ar Tryz.func65
abbrev AJL:=BQ Ar Tryz.func67
abbrev AM9:=BQ Ar Tryz.func70
abbrev ANA:=BQ Ar Tryz.func71
abbrev ANB:=BQ Ar Tryz.func72
abbrev ANC:=BQ Ar Tryz.func73
abbrev AJM:=BQ Ar Tryz.func78
abbrev ANE:=BQ Ar Tryz.func81
abbrev ANF:=BQ Ar Tryz.func82
abbrev ANG:=BQ Ar Tryz.func83
abbrev ASB:=BQ Ar Tryz.func84
abbrev ANH:=BQ Ar Tryz.func85
abbrev ANI:=BQ Ar Tryz.func86
abbrev ANJ:=BQ Ar Tryz.func87
abbrev ANK:=BQ Ar Tryz.func88
abbrev ANL:=BQ Ar Tryz.func89
abbrev ANM:=BQ Ar Tryz.func90
abbrev AJN:=BQ Ar Tryz.func94
abbrev ANN:=BQ Ar Tryz.func95
abbrev ANO:=BQ Ar Tryz.func96
abbrev ANP:=BQ Ar Tryz.func97
abbrev ANQ:=BQ Ar Tryz.func98
abbrev ANR:=BQ Ar Tryz.func99
abbrev AJO:=BQ Ar Tryz.func100
abbrev AJP:=BQ Ar Tryz.func120
abbrev APm:=BQ Ar Tryz.func122
abbrev AEK:=BQ Ar Tryz.func123
abbrev AJQ:=BQ Ar Tryz.func124
abbrev AJR:=BQ Ar Tryz.func125
abbrev AJS:=BQ Ar Tryz.func128
abbrev AJT:=BQ Ar Tryz.func129
abbrev AJU:=BQ Ar Tryz.func130
abbrev APn:=BQ Ar Tryz.func136
abbrev APo:=BQ Ar Tryz.func137
abbrev APp:=BQ Ar Tryz.func138
abbrev APq:=BQ Ar Tryz.func139
abbrev APr:=BQ Ar Tryz.func140
abbrev APs:=BQ Ar Tryz.func141
abbrev APt:=BQ Ar Tryz.func142
abbrev APu:=BQ Ar Tryz.func143
abbrev APv:=BQ Ar Tryz.func144
abbrev APw:=BQ Ar Tryz.func145
abbrev APx:=BQ Ar Tryz.func146
abbrev APy:=BQ Ar Tryz.func147
abbrev APz:=BQ Ar Tryz.func148
abbrev AP0:=BQ Ar Tryz.func149
abbrev AP1:=BQ Ar Tryz.func150
abbrev AP2:=BQ Ar Tryz.func151
abbrev AP3:=BQ Ar Tryz.func152
abbrev AP4:=BQ Ar Tryz.func153
abbrev AP5:=BQ Ar Tryz.func154
abbrev AP6:=BQ Ar Tryz.func155
abbrev AP7:=BQ Ar Tryz.func156
abbrev AJV:=BQ Ar Tryz.func177
abbrev AJW:=BQ Ar Tryz.func178
abbrev AJX:=BQ Ar Tryz.func179
abbrev AJY:=BQ Ar Tryz.func180
abbrev AJZ:=BQ Ar Tryz.func181
abbrev AJa:=BQ Ar Tryz.func183
abbrev AJb:=BQ Ar Tryz.func185
abbrev ANT:=BQ Ar Tryz.func68
abbrev ANU:=BQ Ar Tryz.func91
abbrev ASC:=BQ Ar Tryz.func92
abbrev ASD:=BQ Ar Tryz.func93
abbrev AP8:=BQ Ar Tryz.func121
abbrev AP9:=BQ Ar Tryz.func126
abbrev AQA:=BQ Ar Tryz.func127
abbrev AQB:=BQ Ar Tryz.func171
abbrev AJc:=BQ Ar Tryz.func190
abbrev AQC:=BQ Ar Tryz.func192
abbrev AQD:=BQ Ar Tryz.func193
abbrev VC8:=BX VF8 rfl Aq
abbrev VC9:=BX VF9 rfl Aq
abbrev ASE:=BX AFo rfl Aq
abbrev ASF:=BX AMb rfl Aq
abbrev ANV:=BX AMc rfl Aq
abbrev ANW:=BX AMd rfl Aq
abbrev ASG:=BX AMe rfl Aq
abbrev AJd:=BX AMf rfl Aq
abbrev ANX:=BX AJF rfl Aq
abbrev ASH:=BX AMg rfl Aq
abbrev ANZ:=BX AMh rfl Aq
abbrev AJe:=BX AMi rfl Aq
abbrev ASI:=BX AMj rfl Aq
abbrev ASJ:=BX AMk rfl Aq
abbrev ASL:=BX AMl rfl Aq
abbrev ASM:=BX AMm rfl Aq
abbrev ASN:=BX AMn rfl Aq
abbrev vI:=BX AFp rfl Aq
abbrev AJf:=BX AJG rfl Aq
abbrev AJg:=BX AJH rfl Aq
abbrev ANa:=BX AJI rfl Aq
abbrev ASO:=BX AJJ rfl Aq
abbrev ASP:=BX AMo rfl Aq
abbrev ASQ:=BX AMp rfl Aq
abbrev ASR:=BX AMq rfl Aq
abbrev ASS:=BX AMr rfl Aq
abbrev AST:=BX AMs rfl Aq
abbrev ASU:=BX uo rfl Aq
abbrev ASV:=BX ABX rfl Aq
abbrev ASW:=BX AMt rfl Aq
abbrev ASX:=BX AMu rfl Aq
abbrev ANb:=BX AMv rfl Aq
abbrev ASY:=BX AMw rfl Aq
abbrev ASZ:=BX AMx rfl Aq
abbrev ANc:=BX AMy rfl Aq
abbrev AJh:=BX AMz rfl Aq
abbrev ANd:=BX AM0 rfl Aq
abbrev ASa:=BX AM1 rfl Aq
abbrev ASb:=BX AM2 rfl Aq
abbrev ASc:=BX ABo rfl Aq
abbrev ANe:=BX AM3 rfl Aq
abbrev ANf:=BX AM4 rfl Aq
abbrev AJi:=BX AJK rfl Aq
abbrev ASd:=BX AM5 rfl Aq
abbrev ASe:=BX AM6 rfl Aq
abbrev ASf:=BX AM7 rfl Aq
abbrev ASg:=BX AM8 rfl Aq
abbrev ASh:=BX AJL rfl Aq
abbrev iY:=BX AM9 rfl Aq
abbrev ABp:=BX ANA rfl Aq
abbrev ASi:=BX ANB rfl Aq
abbrev ASj:=BX ANC rfl Aq
abbrev AJj:=BX AJM rfl Aq
abbrev AJk:=BX ANE rfl Aq
abbrev ASk:=BX ANF rfl Aq
abbrev ASl:=BX ANG rfl Aq
abbrev ASm:=BX ANH rfl Aq
abbrev ASn:=BX ANI rfl Aq
abbrev AJl:=BX ANJ rfl Aq
abbrev ANg:=BX ANK rfl Aq
abbrev ANh:=BX ANL rfl Aq
abbrev ASo:=BX ANM rfl Aq
abbrev ANi:=BX AJN rfl Aq
abbrev ASp:=BX ANN rfl Aq
abbrev ASq:=BX ANO rfl Aq
abbrev ASr:=BX ANP rfl Aq
abbrev ASs:=BX ANQ rfl Aq
abbrev ASt:=BX ANR rfl Aq
abbrev AQE:=BX AJO rfl Aq
abbrev AQF:=BX AJP rfl Aq
abbrev AQG:=BX AJS rfl Aq
abbrev AQH:=BX AJT rfl Aq
abbrev AQI:=BX AJU rfl Aq
abbrev AQJ:=BX AJV rfl Aq
abbrev AQK:=BX AJW rfl Aq
abbrev AQL:=BX AJX rfl Aq
abbrev AQM:=BX AJY rfl Aq
abbrev AQN:=BX AJZ rfl Aq
abbrev AQO:=BX AJa rfl Aq
abbrev AQP:=BX AJb rfl Aq
abbrev VU0:=(Ah.und 0).trans Tryz.underlying0
abbrev VI0:=λw=>(Ah.MC 0 w).trans (Tryz.isAgg0 w)
abbrev VS0:=λw=>(Ah.Iu 0 w).trans (Tryz.sizeOf0 w)
abbrev VZ0:=λw=>(Ah.Iw 0 w).trans (Tryz.zeroValue0 w)
abbrev VU3:=(Ah.und 3).trans Tryz.underlying3
abbrev VI3:=λw=>(Ah.MC 3 w).trans (Tryz.isAgg3 w)
abbrev VS3:=λw=>(Ah.Iu 3 w).trans (Tryz.sizeOf3 w)
abbrev VZ3:=λw=>(Ah.Iw 3 w).trans (Tryz.zeroValue3 w)
abbrev VU4:=(Ah.und 4).trans Tryz.underlying4
abbrev VI4:=λw=>(Ah.MC 4 w).trans (Tryz.isAgg4 w)
abbrev VS4:=λw=>(Ah.Iu 4 w).trans (Tryz.sizeOf4 w)
abbrev VZ4:=λw=>(Ah.Iw 4 w).trans (Tryz.zeroValue4 w)
abbrev VU5:=(Ah.und 5).trans Tryz.underlying5
abbrev VI5:=λw=>(Ah.MC 5 w).trans (Tryz.isAgg5 w)
abbrev VS5:=λw=>(Ah.Iu 5 w).trans (Tryz.sizeOf5 w)
abbrev VZ5:=λw=>(Ah.Iw 5 w).trans (Tryz.zeroValue5 w)
abbrev KZ:=(Ah.und 9).trans Tryz.underlying9
abbrev VI9:=λw=>(Ah.MC 9 w).trans (Tryz.isAgg9 w)
abbrev VS9:=λw=>(Ah.Iu 9 w).trans (Tryz.sizeOf9 w)
abbrev VZ9:=λw=>(Ah.Iw 9 w).trans (Tryz.zeroValue9 w)
abbrev ASu:=(Ah.und 20).trans Tryz.underlying20
abbrev ASv:=λw=>(Ah.MC 20 w).trans (Tryz.isAgg20 w)
abbrev ASw:=λw=>(Ah.Iu 20 w).trans (Tryz.sizeOf20 w)
abbrev ASx:=λw=>(Ah.Iw 20 w).trans (Tryz.zeroValue20 w)
abbrev ASy:=(Ah.und 22).trans Tryz.underlying22
abbrev ASz:=(Ah.und 25).trans Tryz.underlying25
abbrev AS0:=(Ah.und 28).trans Tryz.underlying28
abbrev ANj:=(Ah.und 37).trans Tryz.underlying37
abbrev ANk:=λw=>(Ah.MC 37 w).trans (Tryz.isAgg37 w)
abbrev ANl:=λw=>(Ah.Iu 37 w).trans (Tryz.sizeOf37 w)
abbrev ANm:=λw=>(Ah.Iw 37 w).trans (Tryz.zeroValue37 w)
abbrev AS1:=(Ah.und 51).trans Tryz.underlying51
abbrev vJ:=(Ah.und 62).trans Tryz.underlying62
abbrev AJm:=(Ah.und 69).trans Tryz.underlying69
abbrev AJn:=λw=>(Ah.MC 69 w).trans (Tryz.isAgg69 w)
abbrev AJo:=λw=>(Ah.Iu 69 w).trans (Tryz.sizeOf69 w)
abbrev AJp:=λw=>(Ah.Iw 69 w).trans (Tryz.zeroValue69 w)
abbrev AS2:=(Ah.und 78).trans Tryz.underlying78
abbrev AS3:=(Ah.und 80).trans Tryz.underlying80
abbrev AS4:=(Ah.und 81).trans Tryz.underlying81
abbrev AS5:=(Ah.und 84).trans Tryz.underlying84
abbrev AQQ:=(Ah.und 101).trans Tryz.underlying101
abbrev Iy:=(Ah.und 112).trans Tryz.underlying112
abbrev AQR:=λw=>(Ah.MC 112 w).trans (Tryz.isAgg112 w)
abbrev AQS:=λw=>(Ah.Iu 112 w).trans (Tryz.sizeOf112 w)
abbrev AQT:=λw=>(Ah.Iw 112 w).trans (Tryz.zeroValue112 w)
abbrev AQU:=(Ah.und 113).trans Tryz.underlying113
abbrev AJq:=(Ah.und 114).trans Tryz.underlying114
abbrev AEL:=(Ah.und 120).trans Tryz.underlying120
abbrev zL:=(Ah.und 121).trans Tryz.underlying121
abbrev PH:=(Ah.und 130).trans Tryz.underlying130
abbrev AJr:=λw=>(Ah.MC 130 w).trans (Tryz.isAgg130 w)
abbrev AJs:=λw=>(Ah.Iu 130 w).trans (Tryz.sizeOf130 w)
abbrev AJt:=λw=>(Ah.Iw 130 w).trans (Tryz.zeroValue130 w)
abbrev AJu:=(Ah.und 133).trans Tryz.underlying133
abbrev AQV:=(Ah.und 138).trans Tryz.underlying138
abbrev AQW:=(Ah.und 163).trans Tryz.underlying163
abbrev AQX:=λw=>(Ah.MC 163 w).trans (Tryz.isAgg163 w)
abbrev AQY:=λw=>(Ah.Iu 163 w).trans (Tryz.sizeOf163 w)
abbrev AQZ:=λw=>(Ah.Iw 163 w).trans (Tryz.zeroValue163 w)
abbrev AQa:=(Ah.und 166).trans Tryz.underlying166
abbrev AQb:=λw=>(Ah.MC 166 w).trans (Tryz.isAgg166 w)
abbrev AQc:=λw=>(Ah.Iu 166 w).trans (Tryz.sizeOf166 w)
abbrev AQd:=λw=>(Ah.Iw 166 w).trans (Tryz.zeroValue166 w)
abbrev AJv:=(Ah.und 178).trans Tryz.underlying178
abbrev AJw:=λw=>(Ah.MC 178 w).trans (Tryz.isAgg178 w)
abbrev AJx:=λw=>(Ah.Iu 178 w).trans (Tryz.sizeOf178 w)
abbrev AJy:=λw=>(Ah.Iw 178 w).trans (Tryz.zeroValue178 w)
abbrev AEM:=(Ah.und 179).trans Tryz.underlying179
abbrev AEN:=λw=>(Ah.MC 179 w).trans (Tryz.isAgg179 w)
abbrev AEO:=λw=>(Ah.Iu 179 w).trans (Tryz.sizeOf179 w)
abbrev AEP:=λw=>(Ah.Iw 179 w).trans (Tryz.zeroValue179 w)
abbrev AJz:=(Ah.und 203).trans Tryz.underlying203
abbrev AQe:=(Ah.und 205).trans Tryz.underlying205
abbrev AQf:=(Ah.und 214).trans Tryz.underlying214
abbrev AQg:=λw=>(Ah.MC 214 w).trans (Tryz.isAgg214 w)
abbrev AQh:=λw=>(Ah.Iu 214 w).trans (Tryz.sizeOf214 w)
abbrev AQi:=λw=>(Ah.Iw 214 w).trans (Tryz.zeroValue214 w)
abbrev AJ0:=(Ah.und 228).trans Tryz.underlying228
abbrev AQj:=(Ah.und 242).trans Tryz.underlying242
abbrev AQk:=λw=>(Ah.MC 242 w).trans (Tryz.isAgg242 w)
abbrev AQl:=λw=>(Ah.Iu 242 w).trans (Tryz.sizeOf242 w)
abbrev AQm:=λw=>(Ah.Iw 242 w).trans (Tryz.zeroValue242 w)
abbrev AQn:=(Ah.und 243).trans Tryz.underlying243
abbrev AQo:=λw=>(Ah.MC 243 w).trans (Tryz.isAgg243 w)
abbrev AQp:=λw=>(Ah.Iu 243 w).trans (Tryz.sizeOf243 w)
abbrev AQq:=λw=>(Ah.Iw 243 w).trans (Tryz.zeroValue243 w)
abbrev AQr:=(Ah.und 248).trans Tryz.underlying248
abbrev AQs:=λw=>(Ah.MC 248 w).trans (Tryz.isAgg248 w)
abbrev AQt:=λw=>(Ah.Iu 248 w).trans (Tryz.sizeOf248 w)
abbrev AQu:=λw=>(Ah.Iw 248 w).trans (Tryz.zeroValue248 w)
abbrev AQv:=(Ah.und 252).trans Tryz.underlying252
abbrev AQw:=λw=>(Ah.MC 252 w).trans (Tryz.isAgg252 w)
abbrev AQx:=λw=>(Ah.Iu 252 w).trans (Tryz.sizeOf252 w)
abbrev AQy:=λw=>(Ah.Iw 252 w).trans (Tryz.zeroValue252 w)
abbrev AQz:=(Ah.und 255).trans Tryz.underlying255
abbrev AQ0:=λw=>(Ah.MC 255 w).trans (Tryz.isAgg255 w)
abbrev AQ1:=λw=>(Ah.Iu 255 w).trans (Tryz.sizeOf255 w)
abbrev AQ2:=λw=>(Ah.Iw 255 w).trans (Tryz.zeroValue255 w)
abbrev AQ3:=(Ah.und 257).trans Tryz.underlying257
abbrev AQ4:=λw=>(Ah.MC 257 w).trans (Tryz.isAgg257 w)
abbrev AQ5:=λw=>(Ah.Iu 257 w).trans (Tryz.sizeOf257 w)
abbrev AQ6:=λw=>(Ah.Iw 257 w).trans (Tryz.zeroValue257 w)
abbrev AQ7:=(Ah.und 258).trans Tryz.underlying258
abbrev AQ8:=λw=>(Ah.MC 258 w).trans (Tryz.isAgg258 w)
abbrev AQ9:=λw=>(Ah.Iu 258 w).trans (Tryz.sizeOf258 w)
abbrev ARA:=λw=>(Ah.Iw 258 w).trans (Tryz.zeroValue258 w)
end Go.Proofs.YtkkgcebhfghdnaaGreatDoor
namespace Go.Proofs.YtkkgcebhfghdnaaGreatDoor.Vw
open Go.RowKit
section
variable {a:Act}{K:Act->AL->Prop}{ops:Array Oper}{Q:Exit->Act->AL->Prop}{xs:List AP}{c g k n sz:Nat}{o:Oper}{A:Option Ag}{P:BL}{e t:Aj}{z:AP}{w:AL}
structure AZ (L:List Nat) (w w':AL):Prop where
 os:w'.os=w.os
 tape:w'.tape=w.tape
 output:w'.output=w.output
 size:w.heap.size<=w'.heap.size
 block: ∀k,k<w.heap.size->k∉L->w'.heap[k]? =w.heap[k]?
section Ak
variable {L M:List Nat} {a b c w w':AL}
theorem AZ.refl(L:List Nat)(w:AL):AZ L w w:=⟨rfl,rfl,rfl,Ba _,λ_ _ _=>rfl⟩
theorem AZ.trans(h:AZ L a b)(k:AZ M b c)(hs: ∀x∈M,x∈L\/a.heap.size<=x):AZ L a c:=
 ⟨k.os.trans h.os,k.tape.trans h.tape,k.output.trans h.output,Ci h.size k.size,
  λi hi hn=>(k.block i (ER hi h.size) (λhm=>by rcases hs i hm with h1|h1;exact hn h1;omega)).trans (h.block i hi hn)⟩
theorem AZ.mono(h:AZ M a b)(hs: ∀x∈M,x∈L\/a.heap.size<=x):AZ L a b:=(AZ.refl L a).trans h hs
theorem AZ.nil(h:AZ [] a b)(L:List Nat):AZ L a b:=h.mono AV
theorem AZ.Ap(h:AZ L a b)(k:AZ [] b c):AZ L a c:=h.trans k AV
theorem AZ.drew(h:AZ L a w):AZ L a w.drew:=⟨h.os,h.tape,h.output,h.size,h.block⟩
theorem AZ.drewN(h:AZ L a w)(n:Nat):AZ L a (w.drewN n):=⟨h.os,h.tape,h.output,h.size,h.block⟩
theorem AZ.alloc(h:AZ L a w)(o:Obj):AZ L a (w.alloc o):=
 ⟨h.os,h.tape,h.output,Ci h.size AV,λk hk hn=>(Below.heap_alloc w o k (ER hk h.size)).trans (h.block k hk hn)⟩
theorem AZ.setCell(h:AZ L a w){p:Ag}(hp:p.block∈L\/a.heap.size<=p.block)(u:AP):AZ L a (w.setCell p u):=
 ⟨h.os,h.tape,h.output,by simpa[Xw] using h.size,λi hi hn=>(Below.heap_setCell w p u i (by
  rintro rfl;rcases hp with hp|hp;exact hn hp
  omega)).trans (h.block i hi hn)⟩
theorem AZ.of_below(h:Below w.heap.size w w')(L:List Nat):AZ L w w':=⟨h.os,h.tape,h.output,h.size,λk hk _=>h.block k hk⟩
theorem AZ.vK{row:Option Nat}(h:w.grownBy w' row):AZ row.toList w w':=
 ⟨h.os,h.tape,h.output,h.size,λk hk hn=>h.block k hk (λe=>hn (by simp[<- e]))⟩
theorem AZ.cell(h:AZ L w w'){p:Ag}{v:AP}(hc:w.cell? p=AA v)(hn:p.block∉L):w'.cell? p=AA v:=
 (World.cell?_of_block (h.block p.block (UC w p hc) hn)).trans hc
end Ak
def Bl (w:AL) (g:Nat) (t:Aj) (cs:Array AP):Prop:=w.heap[g]? =AA (.cells cs t (0,0))
section blk
variable {w w':AL} {g:Nat} {t:Aj} {cs:Array AP} {L:List Nat}
theorem Bl.lt(h:Bl w g t cs):g<w.heap.size:=(Df.1 h).1
theorem Bl.cell(h:Bl w g t cs)(i:Nat):w.cell? ⟨g,i,AB⟩=cs[i]? :=cell_of_row w g i cs t (0,0) h
theorem Bl.frozen(h:Bl w g t cs)(i:Nat):w.frozen? ⟨g,i,AB⟩=false:=by unfold Bl at h;simp[World.frozen?,h]
theorem Bl.new(w:AL)(t:Aj)(cs:Array AP):Bl (w.alloc (.cells cs t)) w.heap.size t cs:=heap_alloc_new w _
theorem Bl.Ak(h:Bl w g t cs)(hc:AZ L w w')(hn:g∉L):Bl w' g t cs:=(hc.block g h.lt hn).trans h
theorem Bl.drew(h:Bl w g t cs):Bl w.drew g t cs:=h
theorem Bl.alloc(h:Bl w g t cs)(o:Obj):Bl (w.alloc o) g t cs:=(Below.heap_alloc w o g h.lt).trans h
theorem Bl.FK(h:Bl w g t cs)(i:Nat)(u:AP):Bl (w.setCell ⟨g,i,AB⟩ u) g t (cs.setIfInBounds i u):=by
 unfold Bl at h⊢;simp[Xw,lL,h]
theorem Bl.ne_{g':Nat}{t':Aj}{cs':Array AP}(h:Bl w g t cs)(h':Bl w g' t' cs')(ht:t≠t'):g≠g':=by
 rintro rfl;unfold Bl at h h';rw[h] at h';simp at h';exact ht h'.2
end blk
def bo (A:Option Ag):List Nat:=(A.map (·.block)).toList
@[simp] theorem XW:bo AB=[]:=rfl
@[simp] theorem AS6(a:Ag):bo (AA a)=[a.block]:=rfl
theorem add_block(a:Ag)(n:Nat):(a.add n).block=a.block:=by unfold Tt;split<;>rfl
theorem add_add'(a:Ag)(i j:Nat):(a.add i).add j=a.add (i+j):=by
 unfold Tt;by_cases hi:i=0<;>by_cases hj:j=0<;>simp[hi,hj,U4]
theorem add_zero'(g o j:Nat):(⟨g,o,AB⟩:Ag).add j=⟨g,o+j,AB⟩:=by unfold Tt;split<;>simp_all
theorem oO(a:Ag)(i j:Nat):a.add (i+(j+1))=⟨(a.add i).block,(a.add i).off+(j+1),AB⟩:=by
 unfold Tt;by_cases hi:i=0;subst hi;simp;simp[hi,U4]
def Rd (w:AL) (sz:Nat) (A:Option Ag) (n c:Nat) (xs:List AP):Prop:=
 xs.length=n*sz/\n<=c/\c<=EO/\(A=AB->c=0)/\∀ad,A=AA ad->(0<n->ad.block<w.heap.size)/\∀j u,xs[j]? =AA u->w.cell? (ad.add j)=AA u
section rd
variable {w w':AL} {sz n c:Nat} {A:Option Ag} {xs:List AP} {L:List Nat}
theorem Rd.nil(w:AL)(sz:Nat):Rd w sz AB 0 0 []:=⟨AV,Ba _,D5 _,λ_=>rfl,λ_ h=>by cases h⟩
theorem Rd.Ak(h:Rd w sz A n c xs)(hc:AZ L w w')(hn: ∀k∈bo A,k∉L):Rd w' sz A n c xs:=
 ⟨h.1,h.2.1,h.2.2.1,h.2.2.2.1,λad e=>by
  subst e;refine⟨λhn=>ER ((h.2.2.2.2 ad rfl).1 hn) hc.size,λj u hu=>hc.cell ((h.2.2.2.2 ad rfl).2 j u hu) ?_⟩
  rw[add_block];exact hn ad.block AV⟩
theorem Rd.fC(h:Rd w 1 A n c xs)(hk:k<n): ∃ad u,A=AA ad/\xs[k]? =AA u/\w.cell? (ad.add k)=AA u:=by
 have hl:k<xs.length:=by rw[h.1];omega
 cases A with|none=>have h1:=h.2.2.2.1 rfl;have h2:=h.2.1;omega|some ad=>exact⟨ad,_,rfl,CQ hl,(h.2.2.2.2 ad rfl).2 _ _ (CQ hl)⟩
theorem Rd.some_(h:Rd w sz A n c xs)(hk:0<n): ∃ad,A=AA ad/\ad.block<w.heap.size:=by
 cases A with|none=>have h1:=h.2.2.2.1 rfl;have h2:=h.2.1;omega|some ad=>exact⟨ad,rfl,(h.2.2.2.2 ad rfl).1 hk⟩
theorem Rd.take(h:Rd w sz A n c xs){k:Nat}(hk:k<=n):Rd w sz A k c (xs.take (k*sz)):=by
 refine⟨?_,Ci hk h.2.1,h.2.2.1,h.2.2.2.1,λad e=>⟨λhp=>(h.2.2.2.2 ad e).1 Ad,λj u hu=>(h.2.2.2.2 ad e).2 j u ?_⟩⟩;rw[Ie,h.1];exact Je (TE _ hk);rw[xM] at hu;split at hu;exact hu;cases hu
end rd
def Own (w:AL) (e:Aj) (sz:Nat) (A:Option Ag) (n c:Nat) (xs:List AP):Prop:=w.ownsRow 0 e sz (.slice A n c) n xs
section own
variable {w w':AL} {e:Aj} {sz n c:Nat} {A:Option Ag} {xs:List AP} {L:List Nat}
theorem Own.nil(w:AL)(e:Aj)(sz:Nat):Own w e sz AB 0 0 []:=World.ownsRow_nil w 0 e sz
theorem Own.form(h:Own w e sz A n c xs):(A=AB/\n=0/\c=0/\xs=[])\/∃g cur,A=AA ⟨g,0,AB⟩/\Bl w g e cur/\n<=c/\c<=EO/\cur.size=c*sz/\cur.toList.take (n*sz)=xs:=by
 rcases h.2 with ⟨h1,h2⟩|⟨g,cap,cur,h1,_,h3,h4,h5,h6,h7⟩
 ·injection h1 with e1 e2 e3;subst e1;subst e3;subst h2;exact .inl ⟨rfl,rfl,rfl,TF (by simpa using h.1)⟩
 injection h1 with e1 e2 e3;subst e1;subst e3;exact .inr ⟨g,cur,rfl,h3,h4,h5,h6,h7⟩
theorem Own.rd(h:Own w e sz A n c xs):Rd w sz A n c xs:=by
 rcases h.form with ⟨rfl,rfl,rfl,rfl⟩|⟨g,cur,rfl,hb,hn,hm,hs,ht⟩;exact Rd.nil w sz
 exact⟨h.1,hn,hm,(λe=>by cases e),λad e=>by
  injection e with e;subst e
  exact⟨λ_=>hb.lt,λj u hu=>World.ownsRow.cells h (g:=g) rfl j u hu⟩⟩
theorem Own.lt(h:Own w e sz A n c xs): ∀k∈bo A,k<w.heap.size:=by
 rcases h.form with ⟨rfl,rfl,rfl,rfl⟩|⟨g,cur,rfl,hb,hn,hm,hs,ht⟩;simp;intro k hk;simp at hk;subst hk;exact hb.lt
theorem Own.Ak(h:Own w e sz A n c xs)(hc:AZ L w w')(hn: ∀k∈bo A,k∉L):Own w' e sz A n c xs:=by
 refine⟨h.1,?_⟩;rcases h.2 with h2|⟨g,cap,cur,h1,hb,h3,h4⟩;exact .inl h2;refine .inr ⟨g,cap,cur,h1,hb,?_,h4⟩;injection h1 with e1;subst e1;exact (hc.block g (Df.1 h3).1 (hn g AV)).trans h3
theorem Own.GG{cs:Array AP}(h:Own w e sz A n c xs)(hb:Bl w g t cs)(ht:t≠e): ∀k∈bo A,k≠g:=by
 rcases h.form with ⟨rfl,rfl,rfl,rfl⟩|⟨g',cur,rfl,hb',_⟩;simp;intro k hk;simp at hk;subst hk;exact hb'.ne_ hb (Ir ht)
theorem Own.own_ne{e':Aj}{sz' n' c':Nat}{A':Option Ag}{xs':List AP}(h:Own w e sz A n c xs)(h':Own w e' sz' A' n' c' xs')(ht:e≠e'): ∀k∈bo A,k∉bo A':=by
 rcases h.form with ⟨rfl,rfl,rfl,rfl⟩|⟨g,cur,rfl,hb,_⟩;simp;rcases h'.form with ⟨rfl,rfl,rfl,rfl⟩|⟨g',cur',rfl,hb',_⟩;simp;intro k hk hk';simp at hk hk';subst hk;exact hb.ne_ hb' ht hk'
theorem Own.lit(w:AL)(e:Aj)(sz:Nat)(cs:Array AP)(n:Nat)(hm:n<=EO)(hs:cs.size=n*sz):Own (w.alloc (.cells cs e)) e sz (AA ⟨w.heap.size,0,AB⟩) n n cs.toList:=by
 have:=World.ownsRow_lit (base:=0) (e:=e) (size:=sz) w cs n (D5 _) hm hs;exact this
theorem Own.fC(h:Own w e 1 A n c xs){k:Nat}(hk:k<n): ∃ad u,A=AA ad/\xs[k]? =AA u/\w.cell? (ad.add k)=AA u/\w.frozen? (ad.add k)=false/\
  ∀u',Own (w.setCell (ad.add k) u') e 1 A n c (xs.set k u'):=by
 obtain⟨ad,u,hA,hx,hc⟩:=h.rd.fC hk;rcases h.form with ⟨rfl,rfl,rfl,rfl⟩|⟨g,cur,hA',hb,hn,hm,hs,ht⟩;omega;subst hA';injection hA with hA;subst hA;rw[add_zero',Ny] at hc;refine⟨_,u,rfl,hx,by rw[add_zero',Ny];exact hc,by rw[add_zero'];exact hb.frozen _,λu'=>⟨by rw[AE8];exact h.1,.inr ⟨g,c,_,rfl,D5 _,by rw[add_zero',Ny];exact hb.FK k u',hn,hm,by rw[AE9];exact hs,?_⟩⟩⟩;rw[<- ht,AFA,AFB]
theorem Own.cut(h:Own w e sz A n c xs)(hk:k<=n):Own w e sz A k c (xs.take (k*sz)):=by
 refine⟨?_,?_⟩;rw[Ie,h.1];exact Je (TE _ hk);rcases h.form with ⟨rfl,rfl,rfl,rfl⟩|⟨g,cur,rfl,hb,hn,hm,hs,ht⟩;exact .inl ⟨by rw[show k=0 by omega],Ad⟩;refine .inr ⟨g,c,cur,rfl,D5 _,hb,Ad,hm,hs,?_⟩;rw[<- ht,Zz];congr 1;exact (Je (TE _ hk)).symm
end own
def Ety (P:BL) (t e:Aj) (sz bytes:Nat) (z:AP):Prop:=
 P.underlying t=AA (.slice e)/\(∃i,P.info? e=AA i/\i.zero=AA z/\i.size=sz/\i.bytes=bytes)/\z.cells.size=sz/\0<sz
theorem Ety.mk'{bytes:Nat}(ht:P.underlying t=AA (.slice e))(h:(P.info? e).map (λi=>(i.zero,i.size,i.bytes))=AA (AA z,sz,bytes))(hz:z.cells.size=sz)(hp:0<sz):Ety P t e sz bytes z:=by
 obtain⟨i,h1,h2,h3,h4⟩:=info_parts h;exact⟨ht,⟨i,h1,h2,h3,h4⟩,hz,hp⟩
theorem ABq{bytes:Nat}(he:Ety P t e sz bytes z)(hrd:Rd w sz A n c xs){f:Nat}(h1:f<=g)(h2:g<=n):
  ∃S,(∀w',(Vs t (.slice A n c) (AA (.int .i64 (f:Int))) (AA (.int .i64 (g:Int))) AB).run P w'=.ok (.slice S (g - f) (c - f)) w')/\
   Rd w sz S (g - f) (c - f) ((xs.drop (f*sz)).take ((g - f)*sz))/\∀k∈bo S,k∈bo A:=by
 obtain⟨ht,⟨i,hi,hz,hsz,hby⟩,hzs,hpos⟩:=he;have hc:=hrd.2.1;refine⟨if c=f then A else A.map (·.add (f*sz)),λw'=>?_,⟨?_,Ad,Ci (Nat.sub_le _ _) hrd.2.2.1,?_,?_⟩,?_⟩
 ·(have b1:g<=c:=by omega);simp[Vs,IG ht,Instr.sliceBounds,Instr.sliceBound,asIntOf,sizeOf,typeInfo,hi,hsz,b1,h1]
 rw[Ie,TG,hrd.1,<- Nat.sub_mul];exact Je (TE _ Ad)
 ·intro hn;split at hn;omega
  cases A with|none=>have:=hrd.2.2.2.1 rfl;omega|some ad=>cases hn
 ·intro ad ha;split at ha
  ·subst ha;refine⟨λhp=>by omega,λj u hu=>?_⟩;rw[show g - f=0 by omega] at hu;simp at hu
  cases A with
  |none=>cases ha|some a0=>
   simp at ha;subst ha;refine⟨λhp=>by rw[add_block];exact (hrd.2.2.2.2 a0 rfl).1 Ad,λj u hu=>?_⟩;rw[add_add'];refine (hrd.2.2.2.2 a0 rfl).2 _ u ?_;rw[xM] at hu;split at hu;rw[xN] at hu;exact hu;cases hu
 intro k hk;split at hk;exact hk
 cases A with|none=>simp at hk|some a0=>simpa[add_block] using hk
theorem ABr{ty:Aj}{bytes:Nat}(he:Ety P t e sz bytes z)(hown:Own w e sz A n c xs)
  {A2:Option Ag} {m c2:Nat} {news:List AP} (hrd:Rd w sz A2 m c2 news) (h1: ∀u∈news,u.oneCell'=true) (h63:n+m<=EO) (hb:(n+m)*bytes<=140737488355328):
  ∃A' c' w',(PX #[t,t] ty #[.slice A n c,.slice A2 m c2]).run P w=.ok (.slice A' (n+m) c') w'/\Own w' e sz A' (n+m) c' (xs++news)/\AZ (bo A) w w'/\
   (∀k∈bo A',k∈bo A\/(w.heap.size<=k/\k<w'.heap.size))/\(A'=AB->A=AB/\m=0):=by
 obtain⟨ht,⟨i,hi,hz,hsz,hby⟩,hzs,hpos⟩:=he
 cases A2 with
 |none=>
  have hc0:=hrd.2.2.2.1 rfl;(have hm0:m=0:=by have:=hrd.2.1;omega);subst hm0;subst hc0;have hn:news=[]:=TF (by simpa using hrd.1);subst hn;refine⟨A,c,w,?_,by simpa using hown,AZ.refl _ _,λk hk=>.inl hk,λe=>⟨e,rfl⟩⟩;simpa using run_append_owned_none (P:=P) (w:=w) 0 t ty e i sz ht hi _ n xs hown
 |some ad=>
  obtain⟨v',w',hr,hown',hg,hnil⟩:=run_append_own (P:=P) w 0 t ty e i z sz bytes ht hi hz hsz hby hzs hpos _ n xs hown ad m c2 news hrd.1 (hrd.2.2.2.2 ad rfl).2 h1 h63 hb (D5 _)
  have hform: ∃A' c',v'=.slice A' (n+m) c':=by
   rcases hown'.2 with ⟨h1,h2⟩|⟨g,cap,cur,h1,_⟩;exact⟨AB,0,by rw[h1,h2]⟩;exact⟨_,_,h1⟩
  obtain⟨A',c',rfl⟩:=hform;(have hrow:(Value.slice A n c).ownBlock.toList=bo A:=by cases A<;>rfl);refine⟨A',c',w',hr,hown',by have:=AZ.vK hg;rwa[hrow] at this,?_,?_⟩
  ·
   intro k hk;have hk':k<w'.heap.size:=Own.lt hown' k hk;by_cases hin:k∈bo A;exact .inl hin;right;refine⟨?_,hk'⟩;rcases Wj k w.heap.size with hlt|hge
   ·
    exfalso
    have key: ∀A' c' w',(PX #[t,t] ty #[.slice A n c,.slice (AA ad) m c2]).run P w=.ok (.slice A' (n+m) c') w'->∀k∈bo A',k∈bo A\/w.heap.size<=k:=by
     intro A' c' w' hr';rcases hown.form with ⟨rfl,rfl,rfl,rfl⟩|⟨g,cur,rfl,hbk,hnc,hcm,hcs,htk⟩
     ·by_cases hm:m=0
      ·subst hm;have hn:news=[]:=TF (by simpa using hrd.1);subst hn
       have e0:(PX #[t,t] ty #[.slice AB 0 0,.slice (AA ad) 0 c2]).run P w=.ok (.slice AB 0 0) w:=by
        simp[PX,IG ht,sizeOf,typeInfo,hi,Builtin.lenOf,Builtin.firstCells,loadCells,loadCellsFrom]
       rw[e0] at hr';simp at hr';intro k hk;rw[<- hr'.1.1] at hk;simp at hk
      have e0:=run_append_nil (P:=P) w t ty e i z ht hi hz ad m c2 news (by rw[hsz];exact hrd.1) (hrd.2.2.2.2 ad rfl).2 Ad (by simp only[EO] at h63;omega) (by have hb:=hb;rw[hby];simp only[Ny] at hb;omega);rw[e0] at hr';simp at hr';intro k hk;rw[<- hr'.1.1] at hk;simp at hk;right;omega
     by_cases hroom:n+m<=c
     ·(have hfit:n*i.size+news.length<=cur.size:=by rw[hrd.1,hcs,hsz,<- kC];exact TE _ hroom);have e0:=run_append_room (P:=P) w t ty e i ht hi g n c cur hbk ad m c2 news (by rw[hsz];exact hrd.1) (hrd.2.2.2.2 ad rfl).2 h1 hroom hfit;rw[e0] at hr';simp at hr';intro k hk;rw[<- hr'.1.1] at hk;simp at hk;left;simp[hk]
     have e0:=run_append_grow (P:=P) w t ty e i z ht hi hz ⟨g,0,AB⟩ n c xs (by rw[hsz];exact hown.1) (hown.cells (g:=g) rfl) ad m c2 news (by rw[hsz];exact hrd.1) (hrd.2.2.2.2 ad rfl).2 Ad (by simp only[EO] at h63;omega) (growslice_fits Ad (by rw[hby];exact hb));rw[e0] at hr';simp at hr';intro k hk;rw[<- hr'.1.1] at hk;simp at hk;right;omega
    rcases key A' c' w' hr k hk with h1|h1;exact hin h1;omega
   exact hge
  intro e;subst e
  have hx:(n+m=0/\c'=0):=by
   rcases hown'.2 with ⟨h1,h2⟩|⟨g,cap,cur,h1,_⟩
   ·injection h1 with _ _ h3;exact⟨h2,h3⟩
   injection h1 with h1 _ _;cases h1
  have h2:=hnil.1 (by rw[hx.1,hx.2]);refine⟨?_,h2.2⟩;have:=h2.1;injection this
theorem AL7(s x:Operand)
  (ho:o.op=.call {callee:=.builtin .append,args:=#[s,x],argTypes:=#[t,t]})
  {e:Aj} {sz bytes:Nat} {z:AP} (he:Ety P t e sz bytes z) {A:Option Ag} {n c:Nat} {xs:List AP} (hs:a.eval s=.slice A n c) (hown:Own w e sz A n c xs)
  {A2:Option Ag} {m c2:Nat} {news:List AP} (hx:a.eval x=.slice A2 m c2) (hrd:Rd w sz A2 m c2 news) (h1: ∀u∈news,u.oneCell'=true) (h63:n+m<=EO) (hb:(n+m)*bytes<=140737488355328)
  (h: ∀A' c' w',Own w' e sz A' (n+m) c' (xs++news)->AZ (bo A) w w'->(∀k∈bo A',k∈bo A\/(w.heap.size<=k/\k<w'.heap.size))->(A'=AB->A=AB/\m=0)->
   K (a.put o.dst (.slice A' (n+m) c')) w'):o.wp P a w K Q:=by
 obtain⟨A',c',w',hr,h2,h3,h4,h5⟩:=ABr (ty:=o.type) he hown hrd h1 h63 hb;unfold Oper.wp execOp;simp only[ho,resolve,invoke,builtin,Eh,Yf,Om,J3,BK,EG,hs,hx,hr];exact h A' c' w' h2 h3 h4 h5
theorem JU{E:Prop}(hgd:o.guard=AB)(s x:Operand)
  (ho:o.op=.call {callee:=.builtin .append,args:=#[s,x],argTypes:=#[t,t]})
  {e:Aj} {sz bytes:Nat} {z:AP} (he:Ety P t e sz bytes z) {A:Option Ag} {n c:Nat} {xs:List AP} (hs:a.eval s=.slice A n c) (hown:Own w e sz A n c xs)
  {A2:Option Ag} {m c2:Nat} {news:List AP} (hx:a.eval x=.slice A2 m c2) (hrd:Rd w sz A2 m c2 news) (h1: ∀u∈news,u.oneCell'=true) (h63:n+m<=EO) (hb:(n+m)*bytes<=140737488355328)
  (h: ∀A' c' w',Own w' e sz A' (n+m) c' (xs++news)->AZ (bo A) w w'->(∀k∈bo A',k∈bo A\/(w.heap.size<=k/\k<w'.heap.size))->(A'=AB->A=AB/\m=0)->
   K (a.put o.dst (.slice A' (n+m) c')) w'):if DV o (yielded ops a.tmps)=true then Oper.wp P o a w K Q else E:=by
 (have hw:DV o (yielded ops a.tmps)=true:=by simp[DV,hgd]);rw[BZ hw];exact AL7 s x ho he hs hown hx hrd h1 h63 hb h
theorem Gz{rest:List Oper}(hgd:o.guard=AB)(s x:Operand)
  (ho:o.op=.call {callee:=.builtin .append,args:=#[s,x],argTypes:=#[t,t]})
  {e:Aj} {sz bytes:Nat} {z:AP} (he:Ety P t e sz bytes z) {A:Option Ag} {n c:Nat} {xs:List AP} (hs:a.eval s=.slice A n c) (hown:Own w e sz A n c xs)
  {A2:Option Ag} {m c2:Nat} {news:List AP} (hx:a.eval x=.slice A2 m c2) (hrd:Rd w sz A2 m c2 news) (h1: ∀u∈news,u.oneCell'=true) (h63:n+m<=EO) (hb:(n+m)*bytes<=140737488355328)
  (h: ∀A' c' w',Own w' e sz A' (n+m) c' (xs++news)->AZ (bo A) w w'->(∀k∈bo A',k∈bo A\/(w.heap.size<=k/\k<w'.heap.size))->(A'=AB->A=AB/\m=0)->
   wpList P ops Q rest (a.put o.dst (.slice A' (n+m) c')) w'):wpList P ops Q (o::rest) a w:=by
 obtain⟨A',c',w',hr,h2,h3,h4,h5⟩:=ABr (ty:=o.type) he hown hrd h1 h63 hb;refine wpList_plain hgd λK hK=>?_;unfold Oper.wp execOp;simp only[ho,resolve,invoke,builtin,Eh,Yf,Om,J3,BK,EG,hs,hx,hr];exact hK _ _ (h A' c' w' h2 h3 h4 h5)
theorem Bf:(∀(α:Type) (l:List α) (i:Nat) (h:i<l.toArray.size),l.toArray[i]=l[i]'(by simpa using h))/\(∀(α:Type) (a:α) (l:List α) (h:0<(a::l).length),(a::l)[0]=a)/\
  (∀(α:Type) (a:α) (l:List α) (i:Nat) (h:i+1<(a::l).length),(a::l)[i+1]=l[i]'(Nat.lt_of_succ_lt_succ h))/\(∀(α:Type) (l:List α) (i:Nat) (a:α),l.toArray.setIfInBounds i a=(l.set i a).toArray)/\
  (∀(α:Type) (l:List α) (a b:α),(a::l).set 0 b=b::l)/\(∀(α:Type) (l:List α) (a b:α) (n:Nat),(a::l).set (n+1) b=a::l.set n b):=
 ⟨λ_ _ _ _=>rfl,λ_ _ _ _=>rfl,λ_ _ _ _ _=>rfl,λ_ l i a=>List.setIfInBounds_toArray l i a,λ_ _ _ _=>rfl,λ_ _ _ _ _=>rfl⟩
theorem GU:(∀(α:Type) (l:List α) (i:Nat),l.toArray[i]? =l[i]?)/\(∀(α:Type) (a:α) (l:List α) (i:Nat),(a::l)[i+1]? =l[i]?)/\(∀(α:Type) (a:α) (l:List α),(a::l)[0]? =AA a):=⟨λ_ _ _=>by simp,λ_ _ _ _=>rfl,λ_ _ _=>rfl⟩
end
open Go.ChangeShapes Go.WideShapes Go.Deep
section
variable {args:Array AP}{held:Bool}{s:ChangeSpec}{k:IntKind}{before p:List GN}{sp:Nat->Bool}{H α:Type}{e t:Aj}{v:AP}{W W':AL}
theorem own:ownKnob Af.godebug=AB:=by kernel_rfl
section
variable {H:Type} {enc:Aj×AP->H} {P:BL} {w:AL} {base:Nat} {spare:Nat->Bool} {held:Bool}
theorem SB{fs:Array Field}{fuel:Nat}{cs:List AP}{x:Dl H×List GN}(ht:P.underlying t=AA (.slice e))(he:P.underlying e=AA (.struct fs))
  (hone:oneCellFields P fs=true) (hC:P.cellsOf e=fs.size) (h:DataW.trod enc P w base spare held fuel t cs=AA x):
  (cs=[.slice AB 0 0]/\x=(.nil,[]))\/
  ∃(a:Ag) (len cap m:Nat) (D:Nat->Dl H) (Pl:Nat->List GN),cs=[.slice (AA a) len cap]/\base<=a.block/\len<=cap/\cap<=EO/\m=(if spare a.block then cap else len)/\
   x=(.slice ((FZ len).map D) ((FZ (m - len)).map λj=>D (len+j)),MemPlace.row a (m*fs.size)++(FZ m).flatMap Pl)/\
   ∀i,i<m->∃(ys:List (Dl H×List GN)) (n:Nat),D i=.agg (ys.map (·.1))/\Pl i=ys.flatMap (·.2)/\ys.length=fs.size/\
    ∀(j:Nat) (f:Field),fs[j]? =AA f->∃(v:AP) (y:Dl H×List GN),w.cell? (a.add (i*fs.size+j))=AA v/\ys[j]? =AA y/\DataW.trod enc P w base spare held n f.type [v]=AA y:=by
 rcases open_slice ht h with h0|⟨a,len,cap,m,n,D,Pl,hcs,hb,hl,hm,hmm,hx,hi⟩;exact .inl h0;refine .inr ⟨a,len,cap,m,D,Pl,hcs,hb,hl,hm,hmm,by rw[hC] at hx;exact hx,λi him=>?_⟩;obtain⟨cs',hc,ht'⟩:=hi i him;rw[hC] at hc;obtain⟨ys,n',hn',hy,hlen,hyl,hf⟩:=DataW.trod_struct he ht';obtain⟨_,hcl,hat⟩:=World.cells?_some hc;simp only[Nw] at hy;refine⟨ys,n',hy.1,hy.2,hyl,λj f hj=>?_⟩;obtain⟨ho,hk⟩:=hone_of hone j f hj;have hjl:j<fs.size:=(Df.1 hj).1;have hcell:=hat j hjl;have hv:cs'[j]? =AA (cs'[j]'Ad):=CQ Ad;have h1:=hf j f hj;rw[ho,hk] at h1
 have hone':(cs'.drop j).take 1=[cs'[j]'Ad]:=by
  rw[X0 Ad];rfl
 rw[hone'] at h1;have hys:ys[j]? =AA (ys[j]'Ad):=CQ Ad;refine⟨_,_,?_,hys,h1.trans hys⟩;rw[<- Go.Deep.add_add,hcell,hv]
end
section
variable {H:Type} {enc:Aj×AP->H} {P:BL}
theorem oP{f:Func}{apart fresh handsOn again:Bool}{ds gs:List (Dl H)}{pa pv:List GN}
  (hW:DataW.Whole enc P f.params.toList s.vars apart W args.toList ds gs before)
  (hres: ∀(b:Nat) (sp:Nat->Bool) (hd:Bool),DataW.TrodAll enc P W' b sp hd f.resultTypes.toList (v.resultList f.resultTypes.size) (s.fn H (ds++gs)).results [])
  (hargs: ∀sp:Nat->Bool,(∀p∈before,sp p.block=true)->DataW.TrodAll enc P W' 0 sp true f.params.toList args.toList (s.fn H (ds++gs)).args pa)
  (hvars: ∀sp:Nat->Bool,(∀p∈before,sp p.block=true)->DataW.TrodVars enc P W' sp s.vars (s.fn H (ds++gs)).vars pv)
  (hps:before=pa++pv) (hb:Below W.heap.size W W')
  (hok: ∀(j:Nat) (t:Aj) (r:AP),f.resultTypes[j]? =AA t->(v.resultList f.resultTypes.size)[j]? =AA r->Value.okWide P W' .any 0 t r):
  s.post enc P f apart fresh handsOn again W args v W':=by
 have hlt: ∀p∈before,p.block<W.heap.size:=λp hp=>hW.lt p hp;(have hold: ∀p∈before,(λb=>decide (b<W.heap.size)) p.block=true:=λp hp=>by simpa using hlt p hp);refine⟨ds,gs,before,[],pa,pv,hW,hres _ _ _,hargs _ hold,hvars _ hold,World.keptBut_mono (λp hp=>⟨hp,?_⟩) (hb.frame (· ∈before)),λ_=>?_⟩
 ·rw[hps,Be] at hp;exact Or.inr hp
 obtain⟨_,_,_,_,_,hz,hn⟩:=hW;refine⟨hok,_,_,([]++pa)++pv,⟨[]++pa,pv,trodAll_append (hargs _ (λ_ _=>rfl)) (hres _ _ _),hvars _ (λ_ _=>rfl),rfl,?_,?_⟩,?_⟩
 ·intro b off hp;(have hin:MemPlace.cell b off∈before:=by rw[hps];simpa using hp);rw[hb.frozen (hlt _ hin)];exact hz b off hin
 ·intro ha;have:=hn ha;rw[hps] at this;simpa using this
 intro p hp _;rw[hps];simpa using hp
end
theorem WC(D:Nat->Dl H)(n:Nat)(f:Nat->Nat)(h: ∀i,i<n->f i<=Rows.uptoBulk (D i)):((FZ n).map f).sum<=Rows.uptoBulkAll ((FZ n).map D):=by
 have gen: ∀(l:List Nat),(∀i∈l,f i<=Rows.uptoBulk (D i))->(l.map f).sum<=Rows.uptoBulkAll (l.map D):=by
  intro l
  induction l with
  |nil=>intro _;simp[Rows.uptoBulkAll]
  |cons x r ih=>
   intro hl;have h1:=hl x AV;have h2:=ih (λi hi=>hl i (by simp[hi]));simp only[BK,List.sum_cons,Rows.uptoBulkAll];omega
 exact gen _ (λi hi=>h i (by simpa using hi))
theorem ABs{ds:List (Dl H)}(hk:Rows.uptoSmall H ds=true):Rows.uptoBulkAll ds<=1048576:=of_decide_eq_true hk
section
variable {H:Type} {enc:Aj×AP->H} {P:BL}
theorem ANn{d:Dl H}(F:α->AP)(G:α->Nat)
  (ht:P.underlying t=AA (.slice e)) (hc:P.cellsOf e=1) (hel: ∀n (u:AP) y,DataW.trod enc P W 0 sp held n e [u]=AA y->∃a,u=F a/\G a<=Rows.uptoBulk y.1)
  (hv: ∃a l c,v=.slice a l c) (h:DataW.Trod enc P W 0 sp held t v d p):
  ∃A n c,∃zs:List α,v=.slice A n c/\Rd W 1 A n c (zs.map F)/\zs.length=n/\(zs.map G).sum+1<=Rows.uptoBulk d:=by
 obtain⟨a0,l0,c0,rfl⟩:=hv;obtain⟨fuel,hf⟩:=h;rcases open_slice1 ht hc hf with ⟨hcs,hx⟩|⟨a,len,cap,m,n,V,D,Pl,hcs,hb,hl,hm,hmm,hx,hi⟩
 ·simp[Nc] at hcs;obtain⟨rfl,rfl,rfl⟩:=hcs;simp only[Nw] at hx;obtain⟨rfl,rfl⟩:=hx;exact⟨AB,0,0,[],rfl,Rd.nil _ _,rfl,by simp[Rows.uptoBulk]⟩
 simp[Nc] at hcs;obtain⟨rfl,rfl,rfl⟩:=hcs;simp only[Nw] at hx;obtain⟨rfl,rfl⟩:=hx;(have hle:l0<=m:=by rw[hmm];split<;>omega);have hex: ∀i:Nat,i<l0->∃z:α,V i=F z/\G z<=Rows.uptoBulk (D i):=λi hil=>hel _ _ _ (hi i Ad).2
 obtain⟨Z,hZ⟩: ∃zs:List α,zs.length=l0/\∀i z,zs[i]? =AA z->V i=F z/\G z<=Rows.uptoBulk (D i):=by
  have: ∀k,k<=l0->∃zs:List α,zs.length=k/\∀i z,zs[i]? =AA z->V i=F z/\G z<=Rows.uptoBulk (D i):=by
   intro k
   induction k with
   |zero=>intro _;exact⟨[],rfl,λi z h=>by simp at h⟩
   |succ k ih=>
    intro hk;obtain⟨zs,h1,h2⟩:=ih Ad;obtain⟨z,hz⟩:=hex k Ad;refine⟨zs++[z],by simp[h1],λi y hy=>?_⟩;by_cases hik:i<k;rw[NK Ad] at hy;exact h2 i y hy;rw[Gt Ad] at hy
    have h0:i=k:=by
     rcases Wj k i with h3|h3;rw[H8 (by simp;omega)] at hy;cases hy;omega
    subst h0;rw[h1,Jf] at hy;simp at hy;subst hy;exact hz
  exact this l0 (Ba _)
 refine⟨AA a,l0,c0,Z,rfl,⟨by simp[hZ.1],hl,hm,(λe=>by cases e),λad e=>?_⟩,hZ.1,?_⟩
 ·injection e with e;subst e;refine⟨λhp=>?_,λj u hu=>?_⟩
  ·have:=(hi 0 Ad).1;have:=UC _ _ this;rwa[add_block] at this
  rw[Bg] at hu
  cases hz:Z[j]? with
  |none=>rw[hz] at hu;cases hu|some z=>
   rw[hz] at hu;simp at hu;subst hu;(have hj:j<l0:=by have:=(DC.1 hz).1;omega);rw[(hi j Ad).1,(hZ.2 j z hz).1]
 have h1:=WC D l0 (λi=>(Z[i]?.map G).getD 0) (λi hil=>by
  have hz:Z[i]? =AA (Z[i]'Ad):=CQ Ad;rw[hz]
  exact (hZ.2 i _ hz).2)
 have h2:(FZ l0).map (λi=>(Z[i]?.map G).getD 0)=Z.map G:=by
  apply N7;intro i;rw[Bg,Bg];by_cases hil:i<l0
  ·rw[CQ (by simpa using hil),CQ Ad];(have AJ1:i<Z.length:=by omega);simp[AJ1]
  rw[H8 (by simp;omega),H8 Ad];rfl
 rw[h2] at h1;simp only[Rows.uptoBulk];omega
theorem ABt(he:P.underlying e=AA (.int k)): ∀n (u:AP) (y:Dl H×List GN),DataW.trod enc P W 0 sp held n e [u]=AA y->∃a:{z:Int//(Lit.int k z).wf=true},u=KU k a.1/\1<=Rows.uptoBulk y.1:=λn u y h=>by
 obtain⟨z,h1,rfl,h3⟩:=DataW.trod_int he h;simp at h1;exact⟨⟨z,h3⟩,h1,by simp[Rows.uptoBulk]⟩
theorem zM(he:P.underlying e=AA .bool): ∀n (u:AP) (y:Dl H×List GN),DataW.trod enc P W 0 sp held n e [u]=AA y->∃a:Bool,u=Value.bool a/\1<=Rows.uptoBulk y.1:=λn u y h=>by
 obtain⟨z,h1,rfl⟩:=DataW.trod_bool he h;simp at h1;exact⟨z,h1,by simp[Rows.uptoBulk]⟩
theorem ABu(l:List α):(l.map (λ_=>1)).sum=l.length:=by induction l with|nil=>rfl|cons x r ih=>simp[ih];omega
theorem AG2{d:Dl H}
  (ht:P.underlying t=AA (.slice e)) (he:P.underlying e=AA (.int k)) (hc:P.cellsOf e=1) (hv: ∃a l c,v=.slice a l c) (h:DataW.Trod enc P W 0 sp held t v d p):
  ∃A n c,∃zs:List Int,v=.slice A n c/\Rd W 1 A n c (zs.map (KU k))/\zs.length=n/\n+1<=Rows.uptoBulk d/\∀z∈zs,(Lit.int k z).wf=true:=by
 obtain⟨A,n,c,zs,h1,h2,h3,h4⟩:=ANn (λa:{z:Int//(Lit.int k z).wf=true}=>KU k a.1) (λ_=>1) ht hc (ABt he) hv h;rw[ABu] at h4;refine⟨A,n,c,zs.map (·.1),h1,by rw[Eg];exact h2,by simp[h3],Ad,λz hz=>?_⟩;obtain⟨a,_,rfl⟩:=Bz.1 hz;exact a.2
theorem AEQ{d:Dl H}
  (ht:P.underlying t=AA (.slice e)) (he:P.underlying e=AA .bool) (hc:P.cellsOf e=1) (hv: ∃a l c,v=.slice a l c) (h:DataW.Trod enc P W 0 sp held t v d p):
  ∃A n c,∃ks:List Bool,v=.slice A n c/\Rd W 1 A n c (ks.map Value.bool)/\ks.length=n/\n+1<=Rows.uptoBulk d:=by
 obtain⟨A,n,c,zs,h1,h2,h3,h4⟩:=ANn Value.bool (λ_=>1) ht hc (zM he) hv h;rw[ABu] at h4;exact⟨A,n,c,zs,h1,h2,h3,Ad⟩
theorem XX(hl:laidOutB P=true){W W':AL}(hb:Below W.heap.size W W'){sp:Nat->Bool}: ∀(ts:List Aj) (vs:List AP) (ds:List (Dl H)) (ps:List GN),
  (∀t∈ts,P.readableRec t=true/\t<P.types.size)->DataW.TrodAll enc P W 0 (λ_=>true) true ts vs ds ps->(∀x∈ps,x.block<W.heap.size)->(∀x∈ps,sp x.block=true)->DataW.TrodAll enc P W' 0 sp true ts vs ds ps
 | [],[],[],ps,_,h,_,_=>h
 |t::ts,v::vs,d::ds,ps,hr,h,hlt,hsp=>by
  obtain⟨p,q,h1,h2,rfl⟩:=h;refine⟨p,q,WideElems.Trod_stays hl (hr t AV).1 (hr t AV).2 h1 (λx hx=>hb.same (hlt x (by simp[hx]))) (λx hx=>hsp x (by simp[hx])),?_,rfl⟩;exact XX hl hb ts vs ds q (λt ht=>hr t (by simp[ht])) h2 (λx hx=>hlt x (by simp[hx])) (λx hx=>hsp x (by simp[hx]))
theorem AG3{fn:Func}{tb:Aj}{ds gs:List (Dl H)}
  (hl:laidOutB P=true) (hW:DataW.Whole enc P fn.params.toList s.vars false W args.toList ds gs before) (hvars:s.vars=[]) (hrt:fn.resultTypes= #[tb]) (htb:P.underlying tb=AA .bool)
  (hrd: ∀t∈fn.params.toList,P.readableRec t=true/\t<P.types.size)
  (hres:(s.fn H (ds++gs)).results=[.lit (.bool true)]) (hargs:(s.fn H (ds++gs)).args=ds) (hvs:(s.fn H (ds++gs)).vars=[]) (hb:Below W.heap.size W W'):
  s.post enc P fn false true false false W args (.bool true) W':=by
 have hW':=hW;obtain⟨p,q,hA,hV,rfl,hfz,hnd⟩:=hW;rw[hvars] at hV;obtain⟨rfl,rfl⟩:=trodVars_none hV;have hlt: ∀x∈p,x.block<W.heap.size:=λx hx=>hW'.lt x (by simp[hx]);refine oP (pa:=p) (pv:=[]) hW' (λ_ _ _=>?_) (λsp hsp=>?_) (λsp _=>?_) AV hb ?_
 ·rw[hrt,hres];exact trodAll_mk1 (shut_bool htb _)
 ·rw[hargs];exact XX hl hb _ _ _ _ hrd hA hlt (λx hx=>hsp x (by simp[hx]))
 rw[hvars,hvs];rfl;intro j t r hj hr;rw[hrt] at hj hr
 match j,hj,hr with
 |0,hj,hr=>
  simp[Value.resultList] at hj hr;subst hj;subst hr;exact okWide_bool_mk htb _
end
end
section
variable {i:Nat}{P:BL}{e kt t:Aj}
structure vM (P:BL) (kt:Aj) {κ:Type} [DecidableEq κ] (kv:κ->AP):Prop where
 find: ∀(k:κ) (es:List Dp) (ks:List κ) (w:AL),es.map (·.key)=ks.map kv->(Xz kt (kv k) es).run P w=.ok ((ks.idxOf? k).bind λi=>(es[i]?).map λe=>(i,e.val)) w
 check: ∀(k:κ) (e:Bool) (w:AL),(Ua e 10000 kt (kv k)).run P w=.ok () w
 bits: ∀(k:κ),Qn 10000 (kv k) (kv k)=true
 inj: ∀a b:κ,kv a=kv b->a=b
structure zN (P:BL) (kt:Aj) {κ:Type} [DecidableEq κ] (kv:κ->AP) (w:AL) (k:κ) (ks:List κ):Prop where
 find: ∀es:List Dp,es.map (·.key)=ks.map kv->(Xz kt (kv k) es).run P w=.ok ((ks.idxOf? k).bind λi=>(es[i]?).map λe=>(i,e.val)) w
 check: ∀e:Bool,(Ua e 10000 kt (kv k)).run P w=.ok () w
 bits:Qn 10000 (kv k) (kv k)=true
theorem vM.at_{κ:Type}[DecidableEq κ]{kv:κ->AP}(h:vM P kt kv)(w:AL)(k:κ)(ks:List κ):zN P kt kv w k ks:=⟨λes he=>h.find k es ks w he,λe=>h.check k e w,h.bits k⟩
theorem findNow_spec{kind:TypeDesc}{κ:Type}[DecidableEq κ]{kv:κ->Value}(h: ∀a b:κ,Instr.sameNow kind (kv a) (kv b)=some (decide (a=b)))(k:κ): ∀(es:List MapEntry) (ks:List κ) (i:Nat),es.map (·.key)=ks.map kv->
  Instr.findNow kind (kv k) es i=some ((ks.idxOf? k).bind λj=>(es[j]?).map λe=>(i+j,e.val))
 | [],[],i,_=>by simp[Instr.findNow]| [],k'::ks,i,he=>by simp at he|e::es,[],i,he=>by simp at he
 |e::es,k'::ks,i,he=>by
  simp only[BK,IV] at he;unfold Instr.findNow;rw[he.1,h];by_cases hk:k=k'
  ·subst hk;rw[Qw,beq_self_eq_true];simp
  simp only[hk,decide_false];rw[findNow_spec h k es ks (i+1) he.2,Qw];(have:(k'==k)=false:=by simp;exact λe=>hk e.symm);rw[this]
  cases ks.idxOf? k with
  |none=>rfl|some j=>
   simp[U4,lM 1 j]
theorem Cj(h:P.underlying kt=some .string):vM P kt (λz:ByteArray=>Value.string z) where
 find:=λk es ks w he=>by
  have:=findNow_spec (kind:=.string) (kv:=λz:ByteArray=>Value.string z) (λa b=>by
   simp only[Instr.sameNow,DN]
   rw[lN,MapKept.bytes_beq];simp) k es ks 0 he
  simp only[Ny] at this;simp[Xz,IG h,this]
 check:=λk e w=>by
  show (Ua e (9999+1) kt (.string k)).run P w=_;unfold Ua;simp[IG h]
 bits:=λk=>by simp only[Qn];exact (MapKept.bytes_beq k k).2 rfl
 inj:=λa b h=>by injection h
theorem SC{α β:Type}(f:α->β)(l:List α)(i:Nat):(l.map f).eraseIdx i=(l.eraseIdx i).map f:=by
 induction l generalizing i with
 |nil=>rfl
 |cons x r ih=>cases i with
  |zero=>rfl|succ i=>simp[ih]
section lists
variable {κ α:Type} [DecidableEq κ]
def BH (m:List (κ×α)) (k:κ):Option α:=((m.map Aa).idxOf? k).bind λi=>(m[i]?).map (·.2)
def Dk (m:List (κ×α)) (k:κ) (v:α):List (κ×α):=match (m.map Aa).idxOf? k with
 |some i=>m.set i (k,v)|none=>m++[(k,v)]
def I9 (m:List (κ×α)) (k:κ):List (κ×α):=match (m.map Aa).idxOf? k with
 |some i=>m.eraseIdx i|none=>m
theorem Ji{l:List κ}{x:κ}(h:l.idxOf? x=AA i):l[i]? =AA x:=by
 induction l generalizing i with
 |nil=>simp at h|cons y r ih=>
  simp only[Qw] at h;split at h
  ·rename_i hxy;(cases h);simp at hxy;simp[hxy]
  cases hr:r.idxOf? x with
  |none=>rw[hr] at h;simp at h|some k=>
   rw[hr] at h;simp at h;subst h;simpa using ih hr
theorem SG{l:List κ}{x:κ}:l.idxOf? x=AB↔x∉l:=by
 induction l with
 |nil=>simp|cons y r ih=>
  simp only[Qw,BB,not_or];split
  ·rename_i h;simp at h;simp[h]
  rename_i h;(have h': ¬x=y:=by intro e;exact h (by simp[e]));rw[Option.map_eq_none_iff,ih];simp[h']
theorem ABv{l:List κ}(hn:l.Nodup){x:κ}(h:l[i]? =AA x):l.idxOf? x=AA i:=by
 have hm:x∈l:=Bq h
 cases hx:l.idxOf? x with
 |none=>exact Ai hm (SG.1 hx)|some k=>
  have hk:=Ji hx;have hkl:=(DC.1 hk).1;have:=(List.getElem?_inj (i:=k) (j:=i) hkl hn).1 (by rw[hk,h]);rw[this]
theorem CJ{m:List (κ×α)}{k:κ}{v:α}(h:BH m k=AA v):(k,v)∈m:=by
 unfold BH at h
 cases hx:(m.map Aa).idxOf? k with
 |none=>rw[hx] at h;cases h|some i=>
  rw[hx] at h;simp only[Vx] at h;have h1:=Ji hx;rw[Bg] at h1
  cases hm:m[i]? with
  |none=>rw[hm] at h;cases h|some p=>
   rw[hm] at h h1;simp at h h1;have:=Bq hm;rw[<- h1,<- h];exact this
theorem RD{m:List (κ×α)}{k:κ}{v:α}(hn:(m.map Aa).Nodup)(h:(k,v)∈m):BH m k=AA v:=by
 obtain⟨i,hi⟩:=Qx h;(have:(m.map Aa)[i]? =AA k:=by rw[Bg,hi];rfl);unfold BH;rw[ABv hn this];simp[hi]
theorem En{m:List (κ×α)}{k:κ}:BH m k=AB↔k∉m.map Aa:=by
 unfold BH;constructor
 ·intro h
  cases hx:(m.map Aa).idxOf? k with
  |none=>exact SG.1 hx|some i=>
   rw[hx] at h;have h1:=Ji hx;rw[Bg] at h1;simp only[Vx] at h
   cases hm:m[i]? with|none=>rw[hm] at h1;cases h1|some p=>rw[hm] at h;cases h
 intro h;rw[SG.2 h];rfl
theorem PI{m:List (κ×α)}(hn:(m.map Aa).Nodup)(k:κ)(v:α):((Dk m k v).map Aa).Nodup:=by
 unfold Dk
 cases hx:(m.map Aa).idxOf? k with
 |none=>
  simp only[Em,BK,EG];rw[Pj];exact⟨hn,AV,λa ha b hb=>by simp at hb;subst hb;rintro rfl;exact SG.1 hx ha⟩
 |some i=>
  have h1:=Ji hx;simp only[Z4]
  have:(m.map Aa).set i k=m.map Aa:=by
   apply N7;intro j;rw[X3];split
   ·rename_i hij;subst hij;rw[BZ (DC.1 h1).1,h1]
   rfl
  rw[this];exact hn
theorem SH{m:List (κ×α)}(hn:(m.map Aa).Nodup)(k k':κ)(v:α):BH (Dk m k v) k'=if k=k' then AA v else BH m k':=by
 have hn':=PI hn k v;by_cases h:k=k'
 ·subst h;rw[BZ rfl];apply RD hn';unfold Dk
  cases hx:(m.map Aa).idxOf? k with
  |none=>simp|some i=>
   have h1:=(DC.1 (Ji hx)).1;simp at h1;exact Bq (i:=i) (by rw[X3,BZ rfl,BZ h1])
 rw[BM h]
 cases hg:BH m k' with
 |some u=>
  apply RD hn';have hm:=CJ hg;unfold Dk
  cases hx:(m.map Aa).idxOf? k with
  |none=>simp[hm]|some i=>
   obtain⟨j,hj⟩:=Qx hm;have h1:=Ji hx;refine Bq (i:=j) ?_;rw[X3];split
   ·rename_i hij;subst hij;rw[Bg,hj] at h1;simp at h1;exact Ai h1.symm h
   exact hj
 |none=>
  rw[En] at hg⊢;unfold Dk
  cases hx:(m.map Aa).idxOf? k with
  |none=>
   simp only[Em,BK,EG,Be,CG,not_or];exact⟨hg,λe=>h e.symm⟩
  |some i=>
   intro hm;simp only[Z4] at hm;rcases kD hm with h2|h2;exact hg h2;exact h h2.symm
end lists
def Mp {κ:Type} (w:AL) (b:Nat) (kv:κ->AP) (m:List (κ×AP)):Prop:=
 ∃es clock,w.heap[b]? =AA (.map es clock)/\es.toList.map (λe=>(e.key,e.val))=m.map (λp=>(kv p.1,p.2))/\(m.map Aa).Nodup/\(es.toList.map (·.born)).Nodup/\∀e∈es.toList,e.born<clock
section mp0
variable {κ:Type} {w w':AL} {b:Nat} {kv:κ->AP} {m:List (κ×AP)} {L:List Nat}
theorem Mp.lt(h:Mp w b kv m):b<w.heap.size:=by
 obtain⟨es,c,hb,_⟩:=h;exact (Df.1 hb).1
theorem Mp.Ak(h:Mp w b kv m)(hc:AZ L w w')(hn:b∉L):Mp w' b kv m:=by
 have hl:=h.lt;obtain⟨es,c,hb,hr⟩:=h;exact⟨es,c,(hc.block b hl hn).trans hb,hr⟩
theorem Mp.nodup(h:Mp w b kv m):(m.map Aa).Nodup:=by
 obtain⟨es,c,_,_,h3,_⟩:=h;exact h3
theorem Mp.made(w:AL)(kv:κ->AP):Mp (w.alloc (.map #[] 0)) w.heap.size kv []:=⟨#[],0,(MapKept.heap_alloc w _).1,AV,AV,AV,AV⟩
theorem Mp.keys{es:Array Dp}(h:es.toList.map (λe=>(e.key,e.val))=m.map (λp=>(kv p.1,p.2))):es.toList.map (·.key)=(m.map Aa).map kv:=by
 have:=congrArg (List.map Aa) h;rw[Eg,Eg] at this;rw[Eg];exact this
end mp0
section mp
variable {κ:Type} [DecidableEq κ] {P:BL} {w w':AL} {b:Nat} {kv:κ->AP} {m:List (κ×AP)}
theorem Mp.vN(h:Mp w b kv m)(k:κ)(hK:zN P kt kv w k (m.map Aa))(ht:P.underlying t=AA (.map kt e)){z:AP}(hz:(zeroValue e).run P w=.ok z w):
  (PY t (.map (AA b)) (kv k) false).run P w=.ok ((BH m k).getD z) w/\
  (PY t (.map (AA b)) (kv k) true).run P w=.ok (.tuple #[(BH m k).getD z,.bool (BH m k).isSome]) w:=by
 obtain⟨es,c,hb,he,_⟩:=h;have hf:=hK.find es.toList (Mp.keys he)
 have hv: ∀i:Nat,(es.toList[i]?).map (λe:Dp=>e.val)=(m[i]?).map (λp:κ×AP=>p.2):=λi=>by
  have:=congrArg (λl=>(l[i]?).map Prod.snd) he;simp only[Bg,Option.map_map] at this;exact this
 have hrun:(getObj b).run P w=.ok (.map es c) w:=by simp[getObj,Dq,hb]
 have key: ∀(ok:Bool),(PY t (.map (AA b)) (kv k) ok).run P w=.ok (if ok then .tuple #[(BH m k).getD z,.bool (BH m k).isSome] else (BH m k).getD z) w:=by
  intro ok;unfold PY BH;simp only[Eh,IG ht,Om,hrun,Yf,hK.check,hf]
  cases hx:(m.map Aa).idxOf? k with
  |none=>cases ok<;>simp[hz]|some i=>
   have h1:=Ji hx;rw[Bg] at h1;have:=hv i
   cases hmi:m[i]? with
   |none=>rw[hmi] at h1;cases h1|some p=>
    rw[hmi] at this
    cases hei:es.toList[i]? with
    |none=>rw[hei] at this;cases this|some e0=>
     rw[hei] at this;simp at this;(have AS7:es[i]? =AA e0:=by simpa using hei);cases ok<;>simp[AS7,hmi,this]
 exact⟨key false,key true⟩
theorem Mp.lookup(h:Mp w b kv m){t kt e:Aj}(hK:vM P kt kv)(ht:P.underlying t=AA (.map kt e)){z:AP}(hz:(zeroValue e).run P w=.ok z w)(k:κ):
  (PY t (.map (AA b)) (kv k) false).run P w=.ok ((BH m k).getD z) w/\
  (PY t (.map (AA b)) (kv k) true).run P w=.ok (.tuple #[(BH m k).getD z,.bool (BH m k).isSome]) w:=h.vN k (hK.at_ w k _) ht hz
theorem Mp.fD(h:Mp w b kv m)(k:κ)(hK:zN P kt kv w k (m.map Aa))(ht:P.underlying t=AA (.map kt e))(v:AP):
  ∃w',(gZ t (.map (AA b)) (kv k) v).run P w=.ok () w'/\Mp w' b kv (Dk m k v)/\AZ [b] w w':=by
 obtain⟨es,c,hb,he,hn,hs,hc⟩:=h;have hf:=hK.find es.toList (Mp.keys he);(have hrun:(getObj b).run P w=.ok (.map es c) w:=by simp[getObj,Dq,hb]);have hlt:b<w.heap.size:=(Df.1 hb).1;have hset: ∀o:Obj,(I5 b o).run P w=.ok () {w with heap:=w.heap.setIfInBounds b o}:=λo=>by simp[I5,Dq,hb]
 have EU: ∀o:Obj,AZ [b] w {w with heap:=w.heap.setIfInBounds b o}:=λo=>⟨rfl,rfl,rfl,AV,λi hi hne=>by
  simp only[AAk]
  rw[BM (λe=>hne (by simp[e]))]⟩
 have hat: ∀o:Obj,({w with heap:=w.heap.setIfInBounds b o}:AL).heap[b]? =AA o:=λo=>by simp[hlt]
 cases hx:(m.map Aa).idxOf? k with
 |none=>
  refine⟨_,?_,⟨es.push {key:=kv k,val:=v,born:=c},c+1,hat _,?_,PI hn k v,?_,?_⟩,EU _⟩
  ·unfold gZ;simp only[Eh,IG ht,Om,hrun,hK.check,hf,hx];simp[hset]
  simp only[Dk,hx,xO,Em,he,BK,EG]
  ·simp only[xO,Em,BK,EG];rw[Pj];refine⟨hs,AV,λa ha b' hb'=>?_⟩;obtain⟨e0,he0,rfl⟩:=Bz.1 ha;simp at hb';subst hb';have:=hc e0 he0;omega
  intro e0 he0;simp only[xO,Be,CG] at he0;rcases he0 with he0|rfl;have:=hc e0 he0;omega;simp
 |some i=>
  have h1:=Ji hx
  have hil:i<es.size:=by
   have:=(DC.1 h1).1;have e2:=congrArg KX he;simp at this e2;omega
  have hei:es[i]? =AA es[i]:=FD hil
  have hkey:(es[i]).key=kv k:=by
   have e3:=congrArg (λl=>l[i]?) (Mp.keys he);simp only[Bg,Y5,hei] at e3;rw[Bg] at h1
   cases hmi:m[i]? with
   |none=>rw[hmi] at h1;cases h1|some p=>
    rw[hmi] at e3 h1;simp at e3 h1;rw[e3,h1]
  have hml:(es.modify i λe=>{e with key:=kv k,val:=v}).toList=es.toList.set i {es[i] with key:=kv k,val:=v}:=by
   apply N7;intro j;rw[Y5,lL,X3,Y5];by_cases hij:i=j;subst hij;simp[hil];rw[BM hij,BM hij]
  refine⟨_,?_,⟨es.modify i λe=>{e with key:=kv k,val:=v},c,hat _,?_,PI hn k v,?_,?_⟩,EU _⟩
  ·unfold gZ;simp only[Eh,IG ht,Om,hrun,hK.check,hf,hx];(have ARB:(AAe (kv k) (kv k)).run P w=.ok (kv k) w:=by simp[AAe,hK.bits]);simp[hei,hkey,ARB,hset]
  ·rw[hml];simp only[Dk,hx,Z4,he]
  ·rw[hml,Z4]
   have:(es.toList.map (·.born)).set i (es[i]).born=es.toList.map (·.born):=by
    apply N7;intro j;rw[X3];split
    ·rename_i hij;subst hij;simp[hil]
    rfl
   rw[this];exact hs
  intro e0 he0;rw[hml] at he0;rcases kD he0 with h2|h2;exact hc e0 h2;subst h2;exact hc es[i] AV
theorem Mp.update(h:Mp w b kv m)(hK:vM P kt kv)(ht:P.underlying t=AA (.map kt e))(k:κ)(v:AP):
  ∃w',(gZ t (.map (AA b)) (kv k) v).run P w=.ok () w'/\Mp w' b kv (Dk m k v)/\AZ [b] w w':=h.fD k (hK.at_ w k _) ht v
theorem Mp.del(h:Mp w b kv m){ty:Aj}(hK:vM P kt kv)(ht:P.underlying t=AA (.map kt e))(k:κ)(at2:Aj):
  ∃w',(rY #[t,at2] ty #[.map (AA b),kv k]).run P w=.ok (.tuple #[]) w'/\Mp w' b kv (I9 m k)/\AZ [b] w w':=by
 obtain⟨es,c,hb,he,hn,hs,hc⟩:=h;have hf:=hK.find k es.toList _ w (Mp.keys he);(have hrun:(getObj b).run P w=.ok (.map es c) w:=by simp[getObj,Dq,hb]);have hlt:b<w.heap.size:=(Df.1 hb).1;have hset: ∀o:Obj,(I5 b o).run P w=.ok () {w with heap:=w.heap.setIfInBounds b o}:=λo=>by simp[I5,Dq,hb]
 have EU: ∀o:Obj,AZ [b] w {w with heap:=w.heap.setIfInBounds b o}:=λo=>⟨rfl,rfl,rfl,AV,λi hi hne=>by
  simp only[AAk]
  rw[BM (λe=>hne (by simp[e]))]⟩
 have hat: ∀o:Obj,({w with heap:=w.heap.setIfInBounds b o}:AL).heap[b]? =AA o:=λo=>by simp[hlt]
 cases hx:(m.map Aa).idxOf? k with
 |none=>
  refine⟨_,?_,⟨es,c,hat _,by simp only[I9,hx,he],by simp only[I9,hx];exact hn,hs,hc⟩,EU _⟩;unfold rY;simp[IG ht,hrun,hK.check,hf,hx,hset]
 |some i=>
  have h1:=Ji hx
  have hil:i<es.size:=by
   have:=(DC.1 h1).1;have e2:=congrArg KX he;simp at this e2;omega
  have hei:es[i]? =AA es[i]:=FD hil
  have hel:(es.eraseIdxIfInBounds i).toList=es.toList.eraseIdx i:=by
   rw[Array.eraseIdxIfInBounds,dif_pos hil,Array.toList_eraseIdx]
  refine⟨_,?_,⟨es.eraseIdxIfInBounds i,c,hat _,?_,?_,?_,?_⟩,EU _⟩
  ·unfold rY;simp[IG ht,hrun,hK.check,hf,hx,hset,hei]
  ·rw[hel];simp only[I9,hx,<- SC,he]
  ·simp only[I9,hx,<- SC];exact hn.sublist (xP _ _)
  ·rw[hel,<- SC];exact hs.sublist (xP _ _)
  intro e0 he0;rw[hel] at he0;exact hc e0 ((xP _ _).subset he0)
end mp
end
end Go.Proofs.YtkkgcebhfghdnaaGreatDoor.Vw
