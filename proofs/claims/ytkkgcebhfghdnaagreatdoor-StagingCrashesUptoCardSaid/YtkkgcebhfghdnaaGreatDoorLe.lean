/- Part 5 of what that rests on; no condition. -/
import Derived.Test.YtkkgcebhfghdnaaGreatDoorLc
import Derived.BigQuiet
import Derived.ChangeSame
import Derived.Deep.AppendLies
import Derived.Deep.Draws
import Derived.Deep.Fields
import Derived.Deep.QuietTactic
import Derived.Deep.RegionHeld3
import Derived.Deep.RegionLaw
import Derived.Deep.Slices
import Derived.Ground.GgzProg
import Derived.Ground.SlgmProg
import Derived.Ground.SlmcProg
import Derived.JoinedCond
import Derived.KernelRfl
import Derived.Laws.BytesArg
import Derived.Laws.StructEq
import Derived.Lib.AppendZerosOnto
import Derived.Lib.Hide
import Derived.Lib.SmallJoins
import Derived.MapKept
import Derived.Maps.RangeWalk
import Derived.OpenShut
import Derived.ProofKit
import Derived.Shelf.SlGeneric
import Derived.Shelf.SlIter.Nil
import Derived.Shelf.SlMaps.Clone
import Derived.Shelf.SortM.Plain
import Derived.Shelf.SortM.SortNone
import Derived.Sort.KeysCollected
import Derived.Sort.Walk0
import Derived.StillTailTactics
import Derived.StringKeys
import Derived.Test.YtkkgcebhfghdnaaGreatDoorChecked
import Derived.Test.YtkkgcebhfghdnaaGreatDoorRows
import Derived.WalkKit
import Derived.WalkSpells
set_option maxRecDepth 100000
set_option maxHeartbeats 8000000
open Go.World renaming block_lt_of_cell?→UU, setCell→YE
open Array renaming length_toList→WM
open Go.ByteArray renaming toList_eq→Y0
open Go.Builtin renaming firstCells→Mc, zeroCells→Nz, append_→P6, delete_→uB, len_→Us
open Go.Instr renaming keyThatStays→ABK, mapUpdate→iU, checkKey→Ut, sameBits→Q9, findKey→YH, lookup→P7, slice→WE
open Go.Result renaming andThen_ok→O6, andThen→QU
open List renaming flatten_cons→JS, length_cons→EU, cons_append→Dp, flatten_nil→mP, foldl_cons→WC, length_nil→Hr, headD_cons→Rt, replicate→MN, sum_cons→CE, length→Ky, range→Fv
open List.Pairwise renaming nil→mO
open Option renaming getD_some→Dx, bind_some→WI, map_none→YG, map_some→Fq, none→AB, some→AA
open Go.IntKind renaming wrap_i64→NZ
open ByteArray renaming empty→MM
open Go renaming run_underlying→IQ, zeroValue→GY, strOfNums→Fe, MapEntry→Du, typeInfo→I7, callFunc→E5, MemPlace→GZ, Program→BL, Operand→DU, TypeId→Am, setObj→I8, execOp→BI, maxLen→ET, Ending→FT, Value→AQ, World→AL, Calls→Au, DataW→Dt, Addr→Af, Oper→BU
open Go.Value renaming oneCell'→Kz, pointer→QW, string→WN, cells→Ny, int→Kw
open Go.Region renaming wanted→DW
open Go.Sem renaming run_bind→Et, run_pure→Yz, run→Dw
open Go.Fence renaming wide→UW
open Go.Addr renaming add→UM
open Prod renaming fst→Ac
namespace Go.Proofs.YtkkgcebhfghdnaaGreatDoor
open Go
theorem BX{f:FuncId}{fn:Func}(h:Ag.funcs[f]? =AA fn)(hb:fn.body.isNone=false)(hn:(fn.name== "runtime.NumGoroutine")=false)(p:Array AQ)(w:AL):(E5 f p).run Ag w=.ok (.enter f p) w:=by
 unfold E5;simp only[Et];have:(program).run Ag w=.ok Ag w:=rfl;rw[this];simp only[O6,h,hb,hn,DF,if_false];rfl
theorem BO{f:FuncId}{fn:Func}(h:f≠47/\f≠46/\f≠79)(k:Tryz.prog.funcs[f]? =AA fn):Ag.funcs[f]? =AA fn:=(Ai.same h).trans k
abbrev VF3:=BO Ar Tryz.func3
abbrev VF8:=BO Ar Tryz.func8
abbrev VF9:=BO Ar Tryz.func9
abbrev AGV:=BO Ar Tryz.func10
abbrev ANL:=BO Ar Tryz.func11
abbrev ANM:=BO Ar Tryz.func12
abbrev ANN:=BO Ar Tryz.func13
abbrev ANO:=BO Ar Tryz.func14
abbrev ANP:=BO Ar Tryz.func15
abbrev ANQ:=BO Ar Tryz.func16
abbrev ANR:=BO Ar Tryz.func17
abbrev ANT:=BO Ar Tryz.func18
abbrev ANU:=BO Ar Tryz.func19
abbrev ANV:=BO Ar Tryz.func20
abbrev ANW:=BO Ar Tryz.func21
abbrev ANX:=BO Ar Tryz.func22
abbrev ANZ:=BO Ar Tryz.func24
abbrev ANa:=BO Ar Tryz.func28
abbrev ANb:=BO Ar Tryz.func31
abbrev ANc:=BO Ar Tryz.func32
abbrev ANd:=BO Ar Tryz.func33
abbrev ANe:=BO Ar Tryz.func34
abbrev ANf:=BO Ar Tryz.func35
abbrev AGW:=BO Ar Tryz.func36
abbrev AJx:=BO Ar Tryz.func37
abbrev AJy:=BO Ar Tryz.func38
abbrev AJz:=BO Ar Tryz.func39
abbrev AJ0:=BO Ar Tryz.func40
abbrev ANg:=BO Ar Tryz.func41
abbrev ANh:=BO Ar Tryz.func42
abbrev ANi:=BO Ar Tryz.func43
abbrev ANj:=BO Ar Tryz.func44
abbrev ANk:=BO Ar Tryz.func45
abbrev ANl:=BO Ar Tryz.func48
abbrev ANm:=BO Ar Tryz.func49
abbrev ANn:=BO Ar Tryz.func50
abbrev ANo:=BO Ar Tryz.func51
abbrev ANp:=BO Ar Tryz.func52
abbrev ANq:=BO Ar Tryz.func53
abbrev ANr:=BO Ar Tryz.func54
abbrev ANs:=BO Ar Tryz.func55
abbrev ANt:=BO Ar Tryz.func56
abbrev ANu:=BO Ar Tryz.func57
abbrev ACV:=BO Ar Tryz.func58
abbrev ANv:=BO Ar Tryz.func59
abbrev ANw:=BO Ar Tryz.func60
abbrev AJ1:=BO Ar Tryz.func61
abbrev ANx:=BO Ar Tryz.func62
abbrev ANy:=BO Ar Tryz.func63
abbrev ANz:=BO Ar Tryz.func64
abbrev AN0:=BO Ar Tryz.func65
abbrev AJ2:=BO Ar Tryz.func67
abbrev AN1:=BO Ar Tryz.func70
abbrev AN2:=BO Ar Tryz.func71
abbrev AN3:=BO Ar Tryz.func72
abbrev AN4:=BO Ar Tryz.func73
abbrev AJ3:=BO Ar Tryz.func78
abbrev AN5:=BO Ar Tryz.func81
abbrev AN6:=BO Ar Tryz.func82
abbrev AN7:=BO Ar Tryz.func83
abbrev ASq:=BO Ar Tryz.func84
abbrev AN8:=BO Ar Tryz.func85
abbrev AN9:=BO Ar Tryz.func86
abbrev AOA:=BO Ar Tryz.func87
abbrev AOB:=BO Ar Tryz.func88
abbrev AOC:=BO Ar Tryz.func89
abbrev AOD:=BO Ar Tryz.func90
abbrev AJ4:=BO Ar Tryz.func94
abbrev AOE:=BO Ar Tryz.func95
abbrev AOF:=BO Ar Tryz.func96
abbrev AOG:=BO Ar Tryz.func97
abbrev AOH:=BO Ar Tryz.func98
abbrev AOI:=BO Ar Tryz.func99
abbrev AJ5:=BO Ar Tryz.func100
abbrev AJ6:=BO Ar Tryz.func120
abbrev AQP:=BO Ar Tryz.func122
abbrev AE6:=BO Ar Tryz.func123
abbrev AJ7:=BO Ar Tryz.func124
abbrev AJ8:=BO Ar Tryz.func125
abbrev AJ9:=BO Ar Tryz.func128
abbrev AKA:=BO Ar Tryz.func129
abbrev AKB:=BO Ar Tryz.func130
abbrev AQQ:=BO Ar Tryz.func136
abbrev AQR:=BO Ar Tryz.func137
abbrev AQS:=BO Ar Tryz.func138
abbrev AQT:=BO Ar Tryz.func139
abbrev AQU:=BO Ar Tryz.func140
abbrev AQV:=BO Ar Tryz.func141
abbrev AQW:=BO Ar Tryz.func142
abbrev AQX:=BO Ar Tryz.func143
abbrev AQY:=BO Ar Tryz.func144
abbrev AQZ:=BO Ar Tryz.func145
abbrev AQa:=BO Ar Tryz.func146
abbrev AQb:=BO Ar Tryz.func147
abbrev AQc:=BO Ar Tryz.func148
abbrev AQd:=BO Ar Tryz.func149
abbrev AQe:=BO Ar Tryz.func150
abbrev AQf:=BO Ar Tryz.func151
abbrev AQg:=BO Ar Tryz.func152
abbrev AQh:=BO Ar Tryz.func153
abbrev AQi:=BO Ar Tryz.func154
abbrev AQj:=BO Ar Tryz.func155
abbrev AQk:=BO Ar Tryz.func156
abbrev AKC:=BO Ar Tryz.func177
abbrev AKD:=BO Ar Tryz.func178
abbrev AKE:=BO Ar Tryz.func179
abbrev AKF:=BO Ar Tryz.func180
abbrev AKG:=BO Ar Tryz.func181
abbrev AKH:=BO Ar Tryz.func183
abbrev AKI:=BO Ar Tryz.func185
abbrev AOJ:=BO Ar Tryz.func68
abbrev AOK:=BO Ar Tryz.func91
abbrev ASr:=BO Ar Tryz.func92
abbrev ASs:=BO Ar Tryz.func93
abbrev AQl:=BO Ar Tryz.func121
abbrev AQm:=BO Ar Tryz.func126
abbrev AQn:=BO Ar Tryz.func127
abbrev AQo:=BO Ar Tryz.func171
abbrev AKJ:=BO Ar Tryz.func190
abbrev AQp:=BO Ar Tryz.func192
abbrev AQq:=BO Ar Tryz.func193
abbrev VC8:=BX VF8 rfl Aq
abbrev VC9:=BX VF9 rfl Aq
abbrev AOL:=BX AGV rfl Aq
abbrev ASt:=BX ANL rfl Aq
abbrev ASu:=BX ANM rfl Aq
abbrev ASv:=BX ANN rfl Aq
abbrev AOM:=BX ANO rfl Aq
abbrev AKK:=BX ANP rfl Aq
abbrev ASw:=BX ANQ rfl Aq
abbrev AKL:=BX ANR rfl Aq
abbrev ASx:=BX ANT rfl Aq
abbrev ASy:=BX ANU rfl Aq
abbrev AON:=BX ANV rfl Aq
abbrev AGX:=BX ANW rfl Aq
abbrev ASz:=BX ANX rfl Aq
abbrev AS0:=BX ANZ rfl Aq
abbrev AS1:=BX ANa rfl Aq
abbrev AS2:=BX ANb rfl Aq
abbrev AS3:=BX ANc rfl Aq
abbrev AS4:=BX ANd rfl Aq
abbrev AS5:=BX ANe rfl Aq
abbrev AS6:=BX ANf rfl Aq
abbrev wS:=BX AGW rfl Aq
abbrev AKM:=BX AJx rfl Aq
abbrev AKN:=BX AJy rfl Aq
abbrev AOO:=BX AJz rfl Aq
abbrev AS7:=BX AJ0 rfl Aq
abbrev AS8:=BX ANg rfl Aq
abbrev AS9:=BX ANh rfl Aq
abbrev ATA:=BX ANi rfl Aq
abbrev ATB:=BX ANj rfl Aq
abbrev ATC:=BX ANk rfl Aq
abbrev ATD:=BX wH rfl Aq
abbrev ATE:=BX ACC rfl Aq
abbrev ATF:=BX ANl rfl Aq
abbrev ATG:=BX ANm rfl Aq
abbrev AOP:=BX ANn rfl Aq
abbrev ATH:=BX ANo rfl Aq
abbrev ATI:=BX ANp rfl Aq
abbrev AOQ:=BX ANq rfl Aq
abbrev AKO:=BX ANr rfl Aq
abbrev AOR:=BX ANs rfl Aq
abbrev ATJ:=BX ANt rfl Aq
abbrev ATK:=BX ANu rfl Aq
abbrev ATL:=BX ACV rfl Aq
abbrev AOS:=BX ANv rfl Aq
abbrev AOT:=BX ANw rfl Aq
abbrev AKP:=BX AJ1 rfl Aq
abbrev ATM:=BX ANx rfl Aq
abbrev ATN:=BX ANy rfl Aq
abbrev ATO:=BX ANz rfl Aq
abbrev ATP:=BX AN0 rfl Aq
abbrev ATQ:=BX AJ2 rfl Aq
abbrev jS:=BX AN1 rfl Aq
abbrev ACW:=BX AN2 rfl Aq
abbrev ATR:=BX AN3 rfl Aq
abbrev ATS:=BX AN4 rfl Aq
abbrev AKQ:=BX AJ3 rfl Aq
abbrev AKR:=BX AN5 rfl Aq
abbrev ATT:=BX AN6 rfl Aq
abbrev ATU:=BX AN7 rfl Aq
abbrev ATV:=BX AN8 rfl Aq
abbrev ATW:=BX AN9 rfl Aq
abbrev AKS:=BX AOA rfl Aq
abbrev AOU:=BX AOB rfl Aq
abbrev AOV:=BX AOC rfl Aq
abbrev ATX:=BX AOD rfl Aq
abbrev AOW:=BX AJ4 rfl Aq
abbrev ATY:=BX AOE rfl Aq
abbrev ATZ:=BX AOF rfl Aq
abbrev ATa:=BX AOG rfl Aq
abbrev ATb:=BX AOH rfl Aq
abbrev ATc:=BX AOI rfl Aq
abbrev AQr:=BX AJ5 rfl Aq
abbrev AQs:=BX AJ6 rfl Aq
abbrev AQt:=BX AJ9 rfl Aq
abbrev AQu:=BX AKA rfl Aq
abbrev AQv:=BX AKB rfl Aq
abbrev AQw:=BX AKC rfl Aq
abbrev AQx:=BX AKD rfl Aq
abbrev AQy:=BX AKE rfl Aq
abbrev AQz:=BX AKF rfl Aq
abbrev AQ0:=BX AKG rfl Aq
abbrev AQ1:=BX AKH rfl Aq
abbrev AQ2:=BX AKI rfl Aq
abbrev VU0:=(Ai.und 0).trans Tryz.underlying0
abbrev VI0:=λw=>(Ai.MP 0 w).trans (Tryz.isAgg0 w)
abbrev VS0:=λw=>(Ai.Iy 0 w).trans (Tryz.sizeOf0 w)
abbrev VZ0:=λw=>(Ai.Iz 0 w).trans (Tryz.zeroValue0 w)
abbrev VU3:=(Ai.und 3).trans Tryz.underlying3
abbrev VI3:=λw=>(Ai.MP 3 w).trans (Tryz.isAgg3 w)
abbrev VS3:=λw=>(Ai.Iy 3 w).trans (Tryz.sizeOf3 w)
abbrev VZ3:=λw=>(Ai.Iz 3 w).trans (Tryz.zeroValue3 w)
abbrev VU4:=(Ai.und 4).trans Tryz.underlying4
abbrev VI4:=λw=>(Ai.MP 4 w).trans (Tryz.isAgg4 w)
abbrev VS4:=λw=>(Ai.Iy 4 w).trans (Tryz.sizeOf4 w)
abbrev VZ4:=λw=>(Ai.Iz 4 w).trans (Tryz.zeroValue4 w)
abbrev VU5:=(Ai.und 5).trans Tryz.underlying5
abbrev VI5:=λw=>(Ai.MP 5 w).trans (Tryz.isAgg5 w)
abbrev VS5:=λw=>(Ai.Iy 5 w).trans (Tryz.sizeOf5 w)
abbrev VZ5:=λw=>(Ai.Iz 5 w).trans (Tryz.zeroValue5 w)
abbrev LC:=(Ai.und 9).trans Tryz.underlying9
abbrev VI9:=λw=>(Ai.MP 9 w).trans (Tryz.isAgg9 w)
abbrev VS9:=λw=>(Ai.Iy 9 w).trans (Tryz.sizeOf9 w)
abbrev VZ9:=λw=>(Ai.Iz 9 w).trans (Tryz.zeroValue9 w)
abbrev ATd:=(Ai.und 20).trans Tryz.underlying20
abbrev ATe:=λw=>(Ai.MP 20 w).trans (Tryz.isAgg20 w)
abbrev ATf:=λw=>(Ai.Iy 20 w).trans (Tryz.sizeOf20 w)
abbrev ATg:=λw=>(Ai.Iz 20 w).trans (Tryz.zeroValue20 w)
abbrev ATh:=(Ai.und 22).trans Tryz.underlying22
abbrev ATi:=(Ai.und 25).trans Tryz.underlying25
abbrev ATj:=(Ai.und 28).trans Tryz.underlying28
abbrev AOX:=(Ai.und 37).trans Tryz.underlying37
abbrev AOY:=λw=>(Ai.MP 37 w).trans (Tryz.isAgg37 w)
abbrev AOZ:=λw=>(Ai.Iy 37 w).trans (Tryz.sizeOf37 w)
abbrev AOa:=λw=>(Ai.Iz 37 w).trans (Tryz.zeroValue37 w)
abbrev ATk:=(Ai.und 51).trans Tryz.underlying51
abbrev wU:=(Ai.und 62).trans Tryz.underlying62
abbrev AKT:=(Ai.und 69).trans Tryz.underlying69
abbrev AKU:=λw=>(Ai.MP 69 w).trans (Tryz.isAgg69 w)
abbrev AKV:=λw=>(Ai.Iy 69 w).trans (Tryz.sizeOf69 w)
abbrev AKW:=λw=>(Ai.Iz 69 w).trans (Tryz.zeroValue69 w)
abbrev ATl:=(Ai.und 78).trans Tryz.underlying78
abbrev ATm:=(Ai.und 80).trans Tryz.underlying80
abbrev ATn:=(Ai.und 81).trans Tryz.underlying81
abbrev ATo:=(Ai.und 84).trans Tryz.underlying84
abbrev AQ3:=(Ai.und 101).trans Tryz.underlying101
abbrev I4:=(Ai.und 112).trans Tryz.underlying112
abbrev AQ4:=λw=>(Ai.MP 112 w).trans (Tryz.isAgg112 w)
abbrev AQ5:=λw=>(Ai.Iy 112 w).trans (Tryz.sizeOf112 w)
abbrev AQ6:=λw=>(Ai.Iz 112 w).trans (Tryz.zeroValue112 w)
abbrev AQ7:=(Ai.und 113).trans Tryz.underlying113
abbrev AKX:=(Ai.und 114).trans Tryz.underlying114
abbrev AE7:=(Ai.und 120).trans Tryz.underlying120
abbrev AAN:=(Ai.und 121).trans Tryz.underlying121
abbrev PY:=(Ai.und 130).trans Tryz.underlying130
abbrev AKY:=λw=>(Ai.MP 130 w).trans (Tryz.isAgg130 w)
abbrev AKZ:=λw=>(Ai.Iy 130 w).trans (Tryz.sizeOf130 w)
abbrev AKa:=λw=>(Ai.Iz 130 w).trans (Tryz.zeroValue130 w)
abbrev AKb:=(Ai.und 133).trans Tryz.underlying133
abbrev AQ8:=(Ai.und 138).trans Tryz.underlying138
abbrev AQ9:=(Ai.und 163).trans Tryz.underlying163
abbrev ARA:=λw=>(Ai.MP 163 w).trans (Tryz.isAgg163 w)
abbrev ARB:=λw=>(Ai.Iy 163 w).trans (Tryz.sizeOf163 w)
abbrev ARC:=λw=>(Ai.Iz 163 w).trans (Tryz.zeroValue163 w)
abbrev ARD:=(Ai.und 166).trans Tryz.underlying166
abbrev ARF:=λw=>(Ai.MP 166 w).trans (Tryz.isAgg166 w)
abbrev ARH:=λw=>(Ai.Iy 166 w).trans (Tryz.sizeOf166 w)
abbrev ARI:=λw=>(Ai.Iz 166 w).trans (Tryz.zeroValue166 w)
abbrev AKc:=(Ai.und 178).trans Tryz.underlying178
abbrev AKd:=λw=>(Ai.MP 178 w).trans (Tryz.isAgg178 w)
abbrev AKe:=λw=>(Ai.Iy 178 w).trans (Tryz.sizeOf178 w)
abbrev AKf:=λw=>(Ai.Iz 178 w).trans (Tryz.zeroValue178 w)
abbrev AE8:=(Ai.und 179).trans Tryz.underlying179
abbrev AE9:=λw=>(Ai.MP 179 w).trans (Tryz.isAgg179 w)
abbrev AFA:=λw=>(Ai.Iy 179 w).trans (Tryz.sizeOf179 w)
abbrev AFB:=λw=>(Ai.Iz 179 w).trans (Tryz.zeroValue179 w)
abbrev AKg:=(Ai.und 203).trans Tryz.underlying203
abbrev ARJ:=(Ai.und 205).trans Tryz.underlying205
abbrev ARK:=(Ai.und 214).trans Tryz.underlying214
abbrev ARL:=λw=>(Ai.MP 214 w).trans (Tryz.isAgg214 w)
abbrev ARN:=λw=>(Ai.Iy 214 w).trans (Tryz.sizeOf214 w)
abbrev ARO:=λw=>(Ai.Iz 214 w).trans (Tryz.zeroValue214 w)
abbrev AKh:=(Ai.und 228).trans Tryz.underlying228
abbrev ARP:=(Ai.und 242).trans Tryz.underlying242
abbrev ARQ:=λw=>(Ai.MP 242 w).trans (Tryz.isAgg242 w)
abbrev ARR:=λw=>(Ai.Iy 242 w).trans (Tryz.sizeOf242 w)
abbrev ARS:=λw=>(Ai.Iz 242 w).trans (Tryz.zeroValue242 w)
abbrev ART:=(Ai.und 243).trans Tryz.underlying243
abbrev ARU:=λw=>(Ai.MP 243 w).trans (Tryz.isAgg243 w)
abbrev ARV:=λw=>(Ai.Iy 243 w).trans (Tryz.sizeOf243 w)
abbrev ARW:=λw=>(Ai.Iz 243 w).trans (Tryz.zeroValue243 w)
abbrev ARX:=(Ai.und 248).trans Tryz.underlying248
abbrev ARY:=λw=>(Ai.MP 248 w).trans (Tryz.isAgg248 w)
abbrev ARZ:=λw=>(Ai.Iy 248 w).trans (Tryz.sizeOf248 w)
abbrev ARa:=λw=>(Ai.Iz 248 w).trans (Tryz.zeroValue248 w)
abbrev ARb:=(Ai.und 252).trans Tryz.underlying252
abbrev ARc:=λw=>(Ai.MP 252 w).trans (Tryz.isAgg252 w)
abbrev ARd:=λw=>(Ai.Iy 252 w).trans (Tryz.sizeOf252 w)
abbrev ARe:=λw=>(Ai.Iz 252 w).trans (Tryz.zeroValue252 w)
abbrev ARf:=(Ai.und 255).trans Tryz.underlying255
abbrev ARg:=λw=>(Ai.MP 255 w).trans (Tryz.isAgg255 w)
abbrev ARh:=λw=>(Ai.Iy 255 w).trans (Tryz.sizeOf255 w)
abbrev ARi:=λw=>(Ai.Iz 255 w).trans (Tryz.zeroValue255 w)
abbrev ARj:=(Ai.und 257).trans Tryz.underlying257
abbrev ARk:=λw=>(Ai.MP 257 w).trans (Tryz.isAgg257 w)
abbrev ARl:=λw=>(Ai.Iy 257 w).trans (Tryz.sizeOf257 w)
abbrev ARm:=λw=>(Ai.Iz 257 w).trans (Tryz.zeroValue257 w)
abbrev ARn:=(Ai.und 258).trans Tryz.underlying258
abbrev ARo:=λw=>(Ai.MP 258 w).trans (Tryz.isAgg258 w)
abbrev ARp:=λw=>(Ai.Iy 258 w).trans (Tryz.sizeOf258 w)
abbrev ARq:=λw=>(Ai.Iz 258 w).trans (Tryz.zeroValue258 w)
end Go.Proofs.YtkkgcebhfghdnaaGreatDoor
namespace Go.Proofs.YtkkgcebhfghdnaaGreatDoor.Vw
open Go.RowKit
section
variable {a:Act}{K:Act->AL->Prop}{ops:Array BU}{Q:Exit->Act->AL->Prop}{xs:List AQ}{c g k n sz:Nat}{o:BU}{A:Option Af}{P:BL}{e t:Am}{z:AQ}{w:AL}
structure AZ (L:List Nat) (w w':AL):Prop where
 os:w'.os=w.os
 tape:w'.tape=w.tape
 output:w'.output=w.output
 size:w.heap.size<=w'.heap.size
 block: ∀k,k<w.heap.size->k∉L->w'.heap[k]? =w.heap[k]?
section Aj
variable {L M:List Nat} {a b c w w':AL}
theorem AZ.refl(L:List Nat)(w:AL):AZ L w w:=⟨rfl,rfl,rfl,Bc _,λ_ _ _=>rfl⟩
theorem AZ.trans(h:AZ L a b)(k:AZ M b c)(hs: ∀x∈M,x∈L\/a.heap.size<=x):AZ L a c:=
 ⟨k.os.trans h.os,k.tape.trans h.tape,k.output.trans h.output,CY h.size k.size,
  λi hi hn=>(k.block i (EY hi h.size) (λhm=>by rcases hs i hm with h1|h1;exact hn h1;omega)).trans (h.block i hi hn)⟩
theorem AZ.mono(h:AZ M a b)(hs: ∀x∈M,x∈L\/a.heap.size<=x):AZ L a b:=(AZ.refl L a).trans h hs
theorem AZ.nil(h:AZ [] a b)(L:List Nat):AZ L a b:=h.mono AV
theorem AZ.Ah(h:AZ L a b)(k:AZ [] b c):AZ L a c:=h.trans k AV
theorem AZ.drew(h:AZ L a w):AZ L a w.drew:=⟨h.os,h.tape,h.output,h.size,h.block⟩
theorem AZ.drewN(h:AZ L a w)(n:Nat):AZ L a (w.drewN n):=⟨h.os,h.tape,h.output,h.size,h.block⟩
theorem AZ.alloc(h:AZ L a w)(o:Obj):AZ L a (w.alloc o):=
 ⟨h.os,h.tape,h.output,CY h.size AV,λk hk hn=>(Below.heap_alloc w o k (EY hk h.size)).trans (h.block k hk hn)⟩
theorem AZ.setCell(h:AZ L a w){p:Af}(hp:p.block∈L\/a.heap.size<=p.block)(u:AQ):AZ L a (w.setCell p u):=
 ⟨h.os,h.tape,h.output,by simpa[YE] using h.size,λi hi hn=>(Below.heap_setCell w p u i (by
  rintro rfl;rcases hp with hp|hp;exact hn hp
  omega)).trans (h.block i hi hn)⟩
theorem AZ.of_below(h:Below w.heap.size w w')(L:List Nat):AZ L w w':=⟨h.os,h.tape,h.output,h.size,λk hk _=>h.block k hk⟩
theorem AZ.wV{row:Option Nat}(h:w.grownBy w' row):AZ row.toList w w':=
 ⟨h.os,h.tape,h.output,h.size,λk hk hn=>h.block k hk (λe=>hn (by simp[<- e]))⟩
theorem AZ.cell(h:AZ L w w'){p:Af}{v:AQ}(hc:w.cell? p=AA v)(hn:p.block∉L):w'.cell? p=AA v:=
 (World.cell?_of_block (h.block p.block (UU w p hc) hn)).trans hc
end Aj
def Bl (w:AL) (g:Nat) (t:Am) (cs:Array AQ):Prop:=w.heap[g]? =AA (.cells cs t (0,0))
section blk
variable {w w':AL} {g:Nat} {t:Am} {cs:Array AQ} {L:List Nat}
theorem Bl.lt(h:Bl w g t cs):g<w.heap.size:=(Dj.1 h).1
theorem Bl.cell(h:Bl w g t cs)(i:Nat):w.cell? ⟨g,i,AB⟩=cs[i]? :=cell_of_row w g i cs t (0,0) h
theorem Bl.frozen(h:Bl w g t cs)(i:Nat):w.frozen? ⟨g,i,AB⟩=false:=by unfold Bl at h;simp[World.frozen?,h]
theorem Bl.new(w:AL)(t:Am)(cs:Array AQ):Bl (w.alloc (.cells cs t)) w.heap.size t cs:=heap_alloc_new w _
theorem Bl.Aj(h:Bl w g t cs)(hc:AZ L w w')(hn:g∉L):Bl w' g t cs:=(hc.block g h.lt hn).trans h
theorem Bl.drew(h:Bl w g t cs):Bl w.drew g t cs:=h
theorem Bl.alloc(h:Bl w g t cs)(o:Obj):Bl (w.alloc o) g t cs:=(Below.heap_alloc w o g h.lt).trans h
theorem Bl.FX(h:Bl w g t cs)(i:Nat)(u:AQ):Bl (w.setCell ⟨g,i,AB⟩ u) g t (cs.setIfInBounds i u):=by
 unfold Bl at h⊢;simp[YE,mW,h]
theorem Bl.ne_{g':Nat}{t':Am}{cs':Array AQ}(h:Bl w g t cs)(h':Bl w g' t' cs')(ht:t≠t'):g≠g':=by
 rintro rfl;unfold Bl at h h';rw[h] at h';simp at h';exact ht h'.2
end blk
def bo (A:Option Af):List Nat:=(A.map (·.block)).toList
@[simp] theorem Xj:bo AB=[]:=rfl
@[simp] theorem ATp(a:Af):bo (AA a)=[a.block]:=rfl
theorem add_block(a:Af)(n:Nat):(a.add n).block=a.block:=by unfold UM;split<;>rfl
theorem add_add'(a:Af)(i j:Nat):(a.add i).add j=a.add (i+j):=by
 unfold UM;by_cases hi:i=0<;>by_cases hj:j=0<;>simp[hi,hj,VM]
theorem add_zero'(g o j:Nat):(⟨g,o,AB⟩:Af).add j=⟨g,o+j,AB⟩:=by unfold UM;split<;>simp_all
theorem pX(a:Af)(i j:Nat):a.add (i+(j+1))=⟨(a.add i).block,(a.add i).off+(j+1),AB⟩:=by
 unfold UM;by_cases hi:i=0;subst hi;simp;simp[hi,VM]
def Rd (w:AL) (sz:Nat) (A:Option Af) (n c:Nat) (xs:List AQ):Prop:=
 xs.length=n*sz/\n<=c/\c<=ET/\(A=AB->c=0)/\∀ad,A=AA ad->(0<n->ad.block<w.heap.size)/\∀j u,xs[j]? =AA u->w.cell? (ad.add j)=AA u
section rd
variable {w w':AL} {sz n c:Nat} {A:Option Af} {xs:List AQ} {L:List Nat}
theorem Rd.nil(w:AL)(sz:Nat):Rd w sz AB 0 0 []:=⟨AV,Bc _,Dn _,λ_=>rfl,λ_ h=>by cases h⟩
theorem Rd.Aj(h:Rd w sz A n c xs)(hc:AZ L w w')(hn: ∀k∈bo A,k∉L):Rd w' sz A n c xs:=
 ⟨h.1,h.2.1,h.2.2.1,h.2.2.2.1,λad e=>by
  subst e;refine⟨λhn=>EY ((h.2.2.2.2 ad rfl).1 hn) hc.size,λj u hu=>hc.cell ((h.2.2.2.2 ad rfl).2 j u hu) ?_⟩
  rw[add_block];exact hn ad.block AV⟩
theorem Rd.gU(h:Rd w 1 A n c xs)(hk:k<n): ∃ad u,A=AA ad/\xs[k]? =AA u/\w.cell? (ad.add k)=AA u:=by
 have hl:k<xs.length:=by rw[h.1];omega
 cases A with|none=>have h1:=h.2.2.2.1 rfl;have h2:=h.2.1;omega|some ad=>exact⟨ad,_,rfl,CB hl,(h.2.2.2.2 ad rfl).2 _ _ (CB hl)⟩
theorem Rd.some_(h:Rd w sz A n c xs)(hk:0<n): ∃ad,A=AA ad/\ad.block<w.heap.size:=by
 cases A with|none=>have h1:=h.2.2.2.1 rfl;have h2:=h.2.1;omega|some ad=>exact⟨ad,rfl,(h.2.2.2.2 ad rfl).1 hk⟩
theorem Rd.take(h:Rd w sz A n c xs){k:Nat}(hk:k<=n):Rd w sz A k c (xs.take (k*sz)):=by
 refine⟨?_,CY hk h.2.1,h.2.2.1,h.2.2.2.1,λad e=>⟨λhp=>(h.2.2.2.2 ad e).1 Aa,λj u hu=>(h.2.2.2.2 ad e).2 j u ?_⟩⟩;rw[Ht,h.1];exact Jm (Td _ hk);rw[yQ] at hu;split at hu;exact hu;cases hu
end rd
def Own (w:AL) (e:Am) (sz:Nat) (A:Option Af) (n c:Nat) (xs:List AQ):Prop:=w.ownsRow 0 e sz (.slice A n c) n xs
section own
variable {w w':AL} {e:Am} {sz n c:Nat} {A:Option Af} {xs:List AQ} {L:List Nat}
theorem Own.nil(w:AL)(e:Am)(sz:Nat):Own w e sz AB 0 0 []:=World.ownsRow_nil w 0 e sz
theorem Own.form(h:Own w e sz A n c xs):(A=AB/\n=0/\c=0/\xs=[])\/∃g cur,A=AA ⟨g,0,AB⟩/\Bl w g e cur/\n<=c/\c<=ET/\cur.size=c*sz/\cur.toList.take (n*sz)=xs:=by
 rcases h.2 with ⟨h1,h2⟩|⟨g,cap,cur,h1,_,h3,h4,h5,h6,h7⟩
 ·injection h1 with e1 e2 e3;subst e1;subst e3;subst h2;exact .inl ⟨rfl,rfl,rfl,Tf (by simpa using h.1)⟩
 injection h1 with e1 e2 e3;subst e1;subst e3;exact .inr ⟨g,cur,rfl,h3,h4,h5,h6,h7⟩
theorem Own.rd(h:Own w e sz A n c xs):Rd w sz A n c xs:=by
 rcases h.form with ⟨rfl,rfl,rfl,rfl⟩|⟨g,cur,rfl,hb,hn,hm,hs,ht⟩;exact Rd.nil w sz
 exact⟨h.1,hn,hm,(λe=>by cases e),λad e=>by
  injection e with e;subst e
  exact⟨λ_=>hb.lt,λj u hu=>World.ownsRow.cells h (g:=g) rfl j u hu⟩⟩
theorem Own.lt(h:Own w e sz A n c xs): ∀k∈bo A,k<w.heap.size:=by
 rcases h.form with ⟨rfl,rfl,rfl,rfl⟩|⟨g,cur,rfl,hb,hn,hm,hs,ht⟩;simp;intro k hk;simp at hk;subst hk;exact hb.lt
theorem Own.Aj(h:Own w e sz A n c xs)(hc:AZ L w w')(hn: ∀k∈bo A,k∉L):Own w' e sz A n c xs:=by
 refine⟨h.1,?_⟩;rcases h.2 with h2|⟨g,cap,cur,h1,hb,h3,h4⟩;exact .inl h2;refine .inr ⟨g,cap,cur,h1,hb,?_,h4⟩;injection h1 with e1;subst e1;exact (hc.block g (Dj.1 h3).1 (hn g AV)).trans h3
theorem Own.GV{cs:Array AQ}(h:Own w e sz A n c xs)(hb:Bl w g t cs)(ht:t≠e): ∀k∈bo A,k≠g:=by
 rcases h.form with ⟨rfl,rfl,rfl,rfl⟩|⟨g',cur,rfl,hb',_⟩;simp;intro k hk;simp at hk;subst hk;exact hb'.ne_ hb (IE ht)
theorem Own.own_ne{e':Am}{sz' n' c':Nat}{A':Option Af}{xs':List AQ}(h:Own w e sz A n c xs)(h':Own w e' sz' A' n' c' xs')(ht:e≠e'): ∀k∈bo A,k∉bo A':=by
 rcases h.form with ⟨rfl,rfl,rfl,rfl⟩|⟨g,cur,rfl,hb,_⟩;simp;rcases h'.form with ⟨rfl,rfl,rfl,rfl⟩|⟨g',cur',rfl,hb',_⟩;simp;intro k hk hk';simp at hk hk';subst hk;exact hb.ne_ hb' ht hk'
theorem Own.lit(w:AL)(e:Am)(sz:Nat)(cs:Array AQ)(n:Nat)(hm:n<=ET)(hs:cs.size=n*sz):Own (w.alloc (.cells cs e)) e sz (AA ⟨w.heap.size,0,AB⟩) n n cs.toList:=by
 have:=World.ownsRow_lit (base:=0) (e:=e) (size:=sz) w cs n (Dn _) hm hs;exact this
theorem Own.gU(h:Own w e 1 A n c xs){k:Nat}(hk:k<n): ∃ad u,A=AA ad/\xs[k]? =AA u/\w.cell? (ad.add k)=AA u/\w.frozen? (ad.add k)=false/\
  ∀u',Own (w.setCell (ad.add k) u') e 1 A n c (xs.set k u'):=by
 obtain⟨ad,u,hA,hx,hc⟩:=h.rd.gU hk;rcases h.form with ⟨rfl,rfl,rfl,rfl⟩|⟨g,cur,hA',hb,hn,hm,hs,ht⟩;omega;subst hA';injection hA with hA;subst hA;rw[add_zero',Na] at hc;refine⟨_,u,rfl,hx,by rw[add_zero',Na];exact hc,by rw[add_zero'];exact hb.frozen _,λu'=>⟨by rw[kZ];exact h.1,.inr ⟨g,c,_,rfl,Dn _,by rw[add_zero',Na];exact hb.FX k u',hn,hm,by rw[yR];exact hs,?_⟩⟩⟩;rw[<- ht,yS,yT]
theorem Own.cut(h:Own w e sz A n c xs)(hk:k<=n):Own w e sz A k c (xs.take (k*sz)):=by
 refine⟨?_,?_⟩;rw[Ht,h.1];exact Jm (Td _ hk);rcases h.form with ⟨rfl,rfl,rfl,rfl⟩|⟨g,cur,rfl,hb,hn,hm,hs,ht⟩;exact .inl ⟨by rw[show k=0 by omega],Aa⟩;refine .inr ⟨g,c,cur,rfl,Dn _,hb,Aa,hm,hs,?_⟩;rw[<- ht,aV];congr 1;exact (Jm (Td _ hk)).symm
end own
def Ety (P:BL) (t e:Am) (sz bytes:Nat) (z:AQ):Prop:=
 P.underlying t=AA (.slice e)/\(∃i,P.info? e=AA i/\i.zero=AA z/\i.size=sz/\i.bytes=bytes)/\z.cells.size=sz/\0<sz
theorem Ety.mk'{bytes:Nat}(ht:P.underlying t=AA (.slice e))(h:(P.info? e).map (λi=>(i.zero,i.size,i.bytes))=AA (AA z,sz,bytes))(hz:z.cells.size=sz)(hp:0<sz):Ety P t e sz bytes z:=by
 obtain⟨i,h1,h2,h3,h4⟩:=info_parts h;exact⟨ht,⟨i,h1,h2,h3,h4⟩,hz,hp⟩
theorem ACX{bytes:Nat}(he:Ety P t e sz bytes z)(hrd:Rd w sz A n c xs){f:Nat}(h1:f<=g)(h2:g<=n):
  ∃S,(∀w',(WE t (.slice A n c) (AA (.int .i64 (f:Int))) (AA (.int .i64 (g:Int))) AB).run P w'=.ok (.slice S (g - f) (c - f)) w')/\
   Rd w sz S (g - f) (c - f) ((xs.drop (f*sz)).take ((g - f)*sz))/\∀k∈bo S,k∈bo A:=by
 obtain⟨ht,⟨i,hi,hz,hsz,hby⟩,hzs,hpos⟩:=he;have hc:=hrd.2.1;refine⟨if c=f then A else A.map (·.add (f*sz)),λw'=>?_,⟨?_,Aa,CY (Nat.sub_le _ _) hrd.2.2.1,?_,?_⟩,?_⟩
 ·(have b1:g<=c:=by omega);simp[WE,IQ ht,Instr.sliceBounds,Instr.sliceBound,asIntOf,sizeOf,I7,hi,hsz,b1,h1]
 rw[Ht,Ti,hrd.1,<- Nat.sub_mul];exact Jm (Td _ Aa)
 ·intro hn;split at hn;omega
  cases A with|none=>have:=hrd.2.2.2.1 rfl;omega|some ad=>cases hn
 ·intro ad ha;split at ha
  ·subst ha;refine⟨λhp=>by omega,λj u hu=>?_⟩;rw[show g - f=0 by omega] at hu;simp at hu
  cases A with
  |none=>cases ha|some a0=>
   simp at ha;subst ha;refine⟨λhp=>by rw[add_block];exact (hrd.2.2.2.2 a0 rfl).1 Aa,λj u hu=>?_⟩;rw[add_add'];refine (hrd.2.2.2.2 a0 rfl).2 _ u ?_;rw[yQ] at hu;split at hu;rw[yU] at hu;exact hu;cases hu
 intro k hk;split at hk;exact hk
 cases A with|none=>simp at hk|some a0=>simpa[add_block] using hk
theorem ACY{ty:Am}{bytes:Nat}(he:Ety P t e sz bytes z)(hown:Own w e sz A n c xs)
  {A2:Option Af} {m c2:Nat} {news:List AQ} (hrd:Rd w sz A2 m c2 news) (h1: ∀u∈news,u.oneCell'=true) (h63:n+m<=ET) (hb:(n+m)*bytes<=140737488355328):
  ∃A' c' w',(P6 #[t,t] ty #[.slice A n c,.slice A2 m c2]).run P w=.ok (.slice A' (n+m) c') w'/\Own w' e sz A' (n+m) c' (xs++news)/\AZ (bo A) w w'/\
   (∀k∈bo A',k∈bo A\/(w.heap.size<=k/\k<w'.heap.size))/\(A'=AB->A=AB/\m=0):=by
 obtain⟨ht,⟨i,hi,hz,hsz,hby⟩,hzs,hpos⟩:=he
 cases A2 with
 |none=>
  have hc0:=hrd.2.2.2.1 rfl;(have hm0:m=0:=by have:=hrd.2.1;omega);subst hm0;subst hc0;have hn:news=[]:=Tf (by simpa using hrd.1);subst hn;refine⟨A,c,w,?_,by simpa using hown,AZ.refl _ _,λk hk=>.inl hk,λe=>⟨e,rfl⟩⟩;simpa using run_append_owned_none (P:=P) (w:=w) 0 t ty e i sz ht hi _ n xs hown
 |some ad=>
  obtain⟨v',w',hr,hown',hg,hnil⟩:=run_append_own (P:=P) w 0 t ty e i z sz bytes ht hi hz hsz hby hzs hpos _ n xs hown ad m c2 news hrd.1 (hrd.2.2.2.2 ad rfl).2 h1 h63 hb (Dn _)
  have hform: ∃A' c',v'=.slice A' (n+m) c':=by
   rcases hown'.2 with ⟨h1,h2⟩|⟨g,cap,cur,h1,_⟩;exact⟨AB,0,by rw[h1,h2]⟩;exact⟨_,_,h1⟩
  obtain⟨A',c',rfl⟩:=hform;(have hrow:(Value.slice A n c).ownBlock.toList=bo A:=by cases A<;>rfl);refine⟨A',c',w',hr,hown',by have:=AZ.wV hg;rwa[hrow] at this,?_,?_⟩
  ·
   intro k hk;have hk':k<w'.heap.size:=Own.lt hown' k hk;by_cases hin:k∈bo A;exact .inl hin;right;refine⟨?_,hk'⟩;rcases XE k w.heap.size with hlt|hge
   ·
    exfalso
    have key: ∀A' c' w',(P6 #[t,t] ty #[.slice A n c,.slice (AA ad) m c2]).run P w=.ok (.slice A' (n+m) c') w'->∀k∈bo A',k∈bo A\/w.heap.size<=k:=by
     intro A' c' w' hr';rcases hown.form with ⟨rfl,rfl,rfl,rfl⟩|⟨g,cur,rfl,hbk,hnc,hcm,hcs,htk⟩
     ·by_cases hm:m=0
      ·subst hm;have hn:news=[]:=Tf (by simpa using hrd.1);subst hn
       have e0:(P6 #[t,t] ty #[.slice AB 0 0,.slice (AA ad) 0 c2]).run P w=.ok (.slice AB 0 0) w:=by
        simp[P6,IQ ht,sizeOf,I7,hi,Builtin.lenOf,Mc,loadCells,loadCellsFrom]
       rw[e0] at hr';simp at hr';intro k hk;rw[<- hr'.1.1] at hk;simp at hk
      have e0:=run_append_nil (P:=P) w t ty e i z ht hi hz ad m c2 news (by rw[hsz];exact hrd.1) (hrd.2.2.2.2 ad rfl).2 Aa (by simp only[ET] at h63;omega) (by have hb:=hb;rw[hby];simp only[Na] at hb;omega);rw[e0] at hr';simp at hr';intro k hk;rw[<- hr'.1.1] at hk;simp at hk;right;omega
     by_cases hroom:n+m<=c
     ·(have hfit:n*i.size+news.length<=cur.size:=by rw[hrd.1,hcs,hsz,<- ku];exact Td _ hroom);have e0:=run_append_room (P:=P) w t ty e i ht hi g n c cur hbk ad m c2 news (by rw[hsz];exact hrd.1) (hrd.2.2.2.2 ad rfl).2 h1 hroom hfit;rw[e0] at hr';simp at hr';intro k hk;rw[<- hr'.1.1] at hk;simp at hk;left;simp[hk]
     have e0:=run_append_grow (P:=P) w t ty e i z ht hi hz ⟨g,0,AB⟩ n c xs (by rw[hsz];exact hown.1) (hown.cells (g:=g) rfl) ad m c2 news (by rw[hsz];exact hrd.1) (hrd.2.2.2.2 ad rfl).2 Aa (by simp only[ET] at h63;omega) (growslice_fits Aa (by rw[hby];exact hb));rw[e0] at hr';simp at hr';intro k hk;rw[<- hr'.1.1] at hk;simp at hk;right;omega
    rcases key A' c' w' hr k hk with h1|h1;exact hin h1;omega
   exact hge
  intro e;subst e
  have hx:(n+m=0/\c'=0):=by
   rcases hown'.2 with ⟨h1,h2⟩|⟨g,cap,cur,h1,_⟩
   ·injection h1 with _ _ h3;exact⟨h2,h3⟩
   injection h1 with h1 _ _;cases h1
  have h2:=hnil.1 (by rw[hx.1,hx.2]);refine⟨?_,h2.2⟩;have:=h2.1;injection this
theorem AMq(s x:DU)
  (ho:o.op=.call {callee:=.builtin .append,args:=#[s,x],argTypes:=#[t,t]})
  {e:Am} {sz bytes:Nat} {z:AQ} (he:Ety P t e sz bytes z) {A:Option Af} {n c:Nat} {xs:List AQ} (hs:a.eval s=.slice A n c) (hown:Own w e sz A n c xs)
  {A2:Option Af} {m c2:Nat} {news:List AQ} (hx:a.eval x=.slice A2 m c2) (hrd:Rd w sz A2 m c2 news) (h1: ∀u∈news,u.oneCell'=true) (h63:n+m<=ET) (hb:(n+m)*bytes<=140737488355328)
  (h: ∀A' c' w',Own w' e sz A' (n+m) c' (xs++news)->AZ (bo A) w w'->(∀k∈bo A',k∈bo A\/(w.heap.size<=k/\k<w'.heap.size))->(A'=AB->A=AB/\m=0)->
   K (a.put o.dst (.slice A' (n+m) c')) w'):o.wp P a w K Q:=by
 obtain⟨A',c',w',hr,h2,h3,h4,h5⟩:=ACY (ty:=o.type) he hown hrd h1 h63 hb;unfold Oper.wp BI;simp only[ho,resolve,invoke,builtin,Et,Yz,O6,KC,BN,EJ,hs,hx,hr];exact h A' c' w' h2 h3 h4 h5
theorem Jb{E:Prop}(hgd:o.guard=AB)(s x:DU)
  (ho:o.op=.call {callee:=.builtin .append,args:=#[s,x],argTypes:=#[t,t]})
  {e:Am} {sz bytes:Nat} {z:AQ} (he:Ety P t e sz bytes z) {A:Option Af} {n c:Nat} {xs:List AQ} (hs:a.eval s=.slice A n c) (hown:Own w e sz A n c xs)
  {A2:Option Af} {m c2:Nat} {news:List AQ} (hx:a.eval x=.slice A2 m c2) (hrd:Rd w sz A2 m c2 news) (h1: ∀u∈news,u.oneCell'=true) (h63:n+m<=ET) (hb:(n+m)*bytes<=140737488355328)
  (h: ∀A' c' w',Own w' e sz A' (n+m) c' (xs++news)->AZ (bo A) w w'->(∀k∈bo A',k∈bo A\/(w.heap.size<=k/\k<w'.heap.size))->(A'=AB->A=AB/\m=0)->
   K (a.put o.dst (.slice A' (n+m) c')) w'):if DW o (yielded ops a.tmps)=true then Oper.wp P o a w K Q else E:=by
 (have hw:DW o (yielded ops a.tmps)=true:=by simp[DW,hgd]);rw[BZ hw];exact AMq s x ho he hs hown hx hrd h1 h63 hb h
theorem EW{rest:List BU}(hgd:o.guard=AB)(s x:DU)
  (ho:o.op=.call {callee:=.builtin .append,args:=#[s,x],argTypes:=#[t,t]})
  {e:Am} {sz bytes:Nat} {z:AQ} (he:Ety P t e sz bytes z) {A:Option Af} {n c:Nat} {xs:List AQ} (hs:a.eval s=.slice A n c) (hown:Own w e sz A n c xs)
  {A2:Option Af} {m c2:Nat} {news:List AQ} (hx:a.eval x=.slice A2 m c2) (hrd:Rd w sz A2 m c2 news) (h1: ∀u∈news,u.oneCell'=true) (h63:n+m<=ET) (hb:(n+m)*bytes<=140737488355328)
  (h: ∀A' c' w',Own w' e sz A' (n+m) c' (xs++news)->AZ (bo A) w w'->(∀k∈bo A',k∈bo A\/(w.heap.size<=k/\k<w'.heap.size))->(A'=AB->A=AB/\m=0)->
   wpList P ops Q rest (a.put o.dst (.slice A' (n+m) c')) w'):wpList P ops Q (o::rest) a w:=by
 obtain⟨A',c',w',hr,h2,h3,h4,h5⟩:=ACY (ty:=o.type) he hown hrd h1 h63 hb;refine wpList_plain hgd λK hK=>?_;unfold Oper.wp BI;simp only[ho,resolve,invoke,builtin,Et,Yz,O6,KC,BN,EJ,hs,hx,hr];exact hK _ _ (h A' c' w' h2 h3 h4 h5)
theorem Bh:(∀(α:Type) (l:List α) (i:Nat) (h:i<l.toArray.size),l.toArray[i]=l[i]'(by simpa using h))/\(∀(α:Type) (a:α) (l:List α) (h:0<(a::l).length),(a::l)[0]=a)/\
  (∀(α:Type) (a:α) (l:List α) (i:Nat) (h:i+1<(a::l).length),(a::l)[i+1]=l[i]'(Nat.lt_of_succ_lt_succ h))/\(∀(α:Type) (l:List α) (i:Nat) (a:α),l.toArray.setIfInBounds i a=(l.set i a).toArray)/\
  (∀(α:Type) (l:List α) (a b:α),(a::l).set 0 b=b::l)/\(∀(α:Type) (l:List α) (a b:α) (n:Nat),(a::l).set (n+1) b=a::l.set n b):=
 ⟨λ_ _ _ _=>rfl,λ_ _ _ _=>rfl,λ_ _ _ _ _=>rfl,λ_ l i a=>List.setIfInBounds_toArray l i a,λ_ _ _ _=>rfl,λ_ _ _ _ _=>rfl⟩
theorem GG:(∀(α:Type) (l:List α) (i:Nat),l.toArray[i]? =l[i]?)/\(∀(α:Type) (a:α) (l:List α) (i:Nat),(a::l)[i+1]? =l[i]?)/\(∀(α:Type) (a:α) (l:List α),(a::l)[0]? =AA a):=⟨λ_ _ _=>by simp,λ_ _ _ _=>rfl,λ_ _ _=>rfl⟩
end
open Go.ChangeShapes Go.WideShapes Go.Deep
section
variable {args:Array AQ}{held:Bool}{s:ChangeSpec}{k:IntKind}{before p:List GZ}{sp:Nat->Bool}{H α:Type}{e t:Am}{v:AQ}{W W':AL}
theorem own:ownKnob Ag.godebug=AB:=by kernel_rfl
section
variable {H:Type} {enc:Am×AQ->H} {P:BL} {w:AL} {base:Nat} {spare:Nat->Bool} {held:Bool}
theorem Su{fs:Array Field}{fuel:Nat}{cs:List AQ}{x:Dt H×List GZ}(ht:P.underlying t=AA (.slice e))(he:P.underlying e=AA (.struct fs))
  (hone:oneCellFields P fs=true) (hC:P.cellsOf e=fs.size) (h:DataW.trod enc P w base spare held fuel t cs=AA x):
  (cs=[.slice AB 0 0]/\x=(.nil,[]))\/
  ∃(a:Af) (len cap m:Nat) (D:Nat->Dt H) (Pl:Nat->List GZ),cs=[.slice (AA a) len cap]/\base<=a.block/\len<=cap/\cap<=ET/\m=(if spare a.block then cap else len)/\
   x=(.slice ((Fv len).map D) ((Fv (m - len)).map λj=>D (len+j)),MemPlace.row a (m*fs.size)++(Fv m).flatMap Pl)/\
   ∀i,i<m->∃(ys:List (Dt H×List GZ)) (n:Nat),D i=.agg (ys.map (·.1))/\Pl i=ys.flatMap (·.2)/\ys.length=fs.size/\
    ∀(j:Nat) (f:Field),fs[j]? =AA f->∃(v:AQ) (y:Dt H×List GZ),w.cell? (a.add (i*fs.size+j))=AA v/\ys[j]? =AA y/\DataW.trod enc P w base spare held n f.type [v]=AA y:=by
 rcases open_slice ht h with h0|⟨a,len,cap,m,n,D,Pl,hcs,hb,hl,hm,hmm,hx,hi⟩;exact .inl h0;refine .inr ⟨a,len,cap,m,D,Pl,hcs,hb,hl,hm,hmm,by rw[hC] at hx;exact hx,λi him=>?_⟩;obtain⟨cs',hc,ht'⟩:=hi i him;rw[hC] at hc;obtain⟨ys,n',hn',hy,hlen,hyl,hf⟩:=DataW.trod_struct he ht';obtain⟨_,hcl,hat⟩:=World.cells?_some hc;simp only[OM] at hy;refine⟨ys,n',hy.1,hy.2,hyl,λj f hj=>?_⟩;obtain⟨ho,hk⟩:=hone_of hone j f hj;have hjl:j<fs.size:=(Dj.1 hj).1;have hcell:=hat j hjl;have hv:cs'[j]? =AA (cs'[j]'Aa):=CB Aa;have h1:=hf j f hj;rw[ho,hk] at h1
 have hone':(cs'.drop j).take 1=[cs'[j]'Aa]:=by
  rw[YI Aa];rfl
 rw[hone'] at h1;have hys:ys[j]? =AA (ys[j]'Aa):=CB Aa;refine⟨_,_,?_,hys,h1.trans hys⟩;rw[<- Go.Deep.add_add,hcell,hv]
end
section
variable {H:Type} {enc:Am×AQ->H} {P:BL}
theorem pY{f:Func}{apart fresh handsOn again:Bool}{ds gs:List (Dt H)}{pa pv:List GZ}
  (hW:DataW.Whole enc P f.params.toList s.vars apart W args.toList ds gs before)
  (hres: ∀(b:Nat) (sp:Nat->Bool) (hd:Bool),DataW.TrodAll enc P W' b sp hd f.resultTypes.toList (v.resultList f.resultTypes.size) (s.fn H (ds++gs)).results [])
  (hargs: ∀sp:Nat->Bool,(∀p∈before,sp p.block=true)->DataW.TrodAll enc P W' 0 sp true f.params.toList args.toList (s.fn H (ds++gs)).args pa)
  (hvars: ∀sp:Nat->Bool,(∀p∈before,sp p.block=true)->DataW.TrodVars enc P W' sp s.vars (s.fn H (ds++gs)).vars pv)
  (hps:before=pa++pv) (hb:Below W.heap.size W W')
  (hok: ∀(j:Nat) (t:Am) (r:AQ),f.resultTypes[j]? =AA t->(v.resultList f.resultTypes.size)[j]? =AA r->Value.okWide P W' .any 0 t r):
  s.post enc P f apart fresh handsOn again W args v W':=by
 have hlt: ∀p∈before,p.block<W.heap.size:=λp hp=>hW.lt p hp;(have hold: ∀p∈before,(λb=>decide (b<W.heap.size)) p.block=true:=λp hp=>by simpa using hlt p hp);refine⟨ds,gs,before,[],pa,pv,hW,hres _ _ _,hargs _ hold,hvars _ hold,World.keptBut_mono (λp hp=>⟨hp,?_⟩) (hb.frame (· ∈before)),λ_=>?_⟩
 ·rw[hps,Bd] at hp;exact Or.inr hp
 obtain⟨_,_,_,_,_,hz,hn⟩:=hW;refine⟨hok,_,_,([]++pa)++pv,⟨[]++pa,pv,trodAll_append (hargs _ (λ_ _=>rfl)) (hres _ _ _),hvars _ (λ_ _=>rfl),rfl,?_,?_⟩,?_⟩
 ·intro b off hp;(have hin:MemPlace.cell b off∈before:=by rw[hps];simpa using hp);rw[hb.frozen (hlt _ hin)];exact hz b off hin
 ·intro ha;have:=hn ha;rw[hps] at this;simpa using this
 intro p hp _;rw[hps];simpa using hp
end
theorem WV(D:Nat->Dt H)(n:Nat)(f:Nat->Nat)(h: ∀i,i<n->f i<=Rows.uptoBulk (D i)):((Fv n).map f).sum<=Rows.uptoBulkAll ((Fv n).map D):=by
 have gen: ∀(l:List Nat),(∀i∈l,f i<=Rows.uptoBulk (D i))->(l.map f).sum<=Rows.uptoBulkAll (l.map D):=by
  intro l
  induction l with
  |nil=>intro _;simp[Rows.uptoBulkAll]
  |cons x r ih=>
   intro hl;have h1:=hl x AV;have h2:=ih (λi hi=>hl i (by simp[hi]));simp only[BN,CE,Rows.uptoBulkAll];omega
 exact gen _ (λi hi=>h i (by simpa using hi))
theorem ACZ{ds:List (Dt H)}(hk:Rows.uptoSmall H ds=true):Rows.uptoBulkAll ds<=1048576:=of_decide_eq_true hk
section
variable {H:Type} {enc:Am×AQ->H} {P:BL}
theorem AOb{d:Dt H}(F:α->AQ)(G:α->Nat)
  (ht:P.underlying t=AA (.slice e)) (hc:P.cellsOf e=1) (hel: ∀n (u:AQ) y,DataW.trod enc P W 0 sp held n e [u]=AA y->∃a,u=F a/\G a<=Rows.uptoBulk y.1)
  (hv: ∃a l c,v=.slice a l c) (h:DataW.Trod enc P W 0 sp held t v d p):
  ∃A n c,∃zs:List α,v=.slice A n c/\Rd W 1 A n c (zs.map F)/\zs.length=n/\(zs.map G).sum+1<=Rows.uptoBulk d:=by
 obtain⟨a0,l0,c0,rfl⟩:=hv;obtain⟨fuel,hf⟩:=h;rcases open_slice1 ht hc hf with ⟨hcs,hx⟩|⟨a,len,cap,m,n,V,D,Pl,hcs,hb,hl,hm,hmm,hx,hi⟩
 ·simp[Ny] at hcs;obtain⟨rfl,rfl,rfl⟩:=hcs;simp only[OM] at hx;obtain⟨rfl,rfl⟩:=hx;exact⟨AB,0,0,[],rfl,Rd.nil _ _,rfl,by simp[Rows.uptoBulk]⟩
 simp[Ny] at hcs;obtain⟨rfl,rfl,rfl⟩:=hcs;simp only[OM] at hx;obtain⟨rfl,rfl⟩:=hx;(have hle:l0<=m:=by rw[hmm];split<;>omega);have hex: ∀i:Nat,i<l0->∃z:α,V i=F z/\G z<=Rows.uptoBulk (D i):=λi hil=>hel _ _ _ (hi i Aa).2
 obtain⟨Z,hZ⟩: ∃zs:List α,zs.length=l0/\∀i z,zs[i]? =AA z->V i=F z/\G z<=Rows.uptoBulk (D i):=by
  have: ∀k,k<=l0->∃zs:List α,zs.length=k/\∀i z,zs[i]? =AA z->V i=F z/\G z<=Rows.uptoBulk (D i):=by
   intro k
   induction k with
   |zero=>intro _;exact⟨[],rfl,λi z h=>by simp at h⟩
   |succ k ih=>
    intro hk;obtain⟨zs,h1,h2⟩:=ih Aa;obtain⟨z,hz⟩:=hex k Aa;refine⟨zs++[z],by simp[h1],λi y hy=>?_⟩;by_cases hik:i<k;rw[Nb Aa] at hy;exact h2 i y hy;rw[Gy Aa] at hy
    have h0:i=k:=by
     rcases XE k i with h3|h3;rw[IG (by simp;omega)] at hy;cases hy;omega
    subst h0;rw[h1,Jn] at hy;simp at hy;subst hy;exact hz
  exact this l0 (Bc _)
 refine⟨AA a,l0,c0,Z,rfl,⟨by simp[hZ.1],hl,hm,(λe=>by cases e),λad e=>?_⟩,hZ.1,?_⟩
 ·injection e with e;subst e;refine⟨λhp=>?_,λj u hu=>?_⟩
  ·have:=(hi 0 Aa).1;have:=UU _ _ this;rwa[add_block] at this
  rw[Bg] at hu
  cases hz:Z[j]? with
  |none=>rw[hz] at hu;cases hu|some z=>
   rw[hz] at hu;simp at hu;subst hu;(have hj:j<l0:=by have:=(CP.1 hz).1;omega);rw[(hi j Aa).1,(hZ.2 j z hz).1]
 have h1:=WV D l0 (λi=>(Z[i]?.map G).getD 0) (λi hil=>by
  have hz:Z[i]? =AA (Z[i]'Aa):=CB Aa;rw[hz]
  exact (hZ.2 i _ hz).2)
 have h2:(Fv l0).map (λi=>(Z[i]?.map G).getD 0)=Z.map G:=by
  apply OQ;intro i;rw[Bg,Bg];by_cases hil:i<l0
  ·rw[CB (by simpa using hil),CB Aa];(have AKi:i<Z.length:=by omega);simp[AKi]
  rw[IG (by simp;omega),IG Aa];rfl
 rw[h2] at h1;simp only[Rows.uptoBulk];omega
theorem ACa(he:P.underlying e=AA (.int k)): ∀n (u:AQ) (y:Dt H×List GZ),DataW.trod enc P W 0 sp held n e [u]=AA y->∃a:{z:Int//(Lit.int k z).wf=true},u=Kw k a.1/\1<=Rows.uptoBulk y.1:=λn u y h=>by
 obtain⟨z,h1,rfl,h3⟩:=DataW.trod_int he h;simp at h1;exact⟨⟨z,h3⟩,h1,by simp[Rows.uptoBulk]⟩
theorem AAO(he:P.underlying e=AA .bool): ∀n (u:AQ) (y:Dt H×List GZ),DataW.trod enc P W 0 sp held n e [u]=AA y->∃a:Bool,u=Value.bool a/\1<=Rows.uptoBulk y.1:=λn u y h=>by
 obtain⟨z,h1,rfl⟩:=DataW.trod_bool he h;simp at h1;exact⟨z,h1,by simp[Rows.uptoBulk]⟩
theorem ACb(l:List α):(l.map (λ_=>1)).sum=l.length:=by induction l with|nil=>rfl|cons x r ih=>simp[ih];omega
theorem AHi{d:Dt H}
  (ht:P.underlying t=AA (.slice e)) (he:P.underlying e=AA (.int k)) (hc:P.cellsOf e=1) (hv: ∃a l c,v=.slice a l c) (h:DataW.Trod enc P W 0 sp held t v d p):
  ∃A n c,∃zs:List Int,v=.slice A n c/\Rd W 1 A n c (zs.map (Kw k))/\zs.length=n/\n+1<=Rows.uptoBulk d/\∀z∈zs,(Lit.int k z).wf=true:=by
 obtain⟨A,n,c,zs,h1,h2,h3,h4⟩:=AOb (λa:{z:Int//(Lit.int k z).wf=true}=>Kw k a.1) (λ_=>1) ht hc (ACa he) hv h;rw[ACb] at h4;refine⟨A,n,c,zs.map (·.1),h1,by rw[Eo];exact h2,by simp[h3],Aa,λz hz=>?_⟩;obtain⟨a,_,rfl⟩:=Bv.1 hz;exact a.2
theorem AFC{d:Dt H}
  (ht:P.underlying t=AA (.slice e)) (he:P.underlying e=AA .bool) (hc:P.cellsOf e=1) (hv: ∃a l c,v=.slice a l c) (h:DataW.Trod enc P W 0 sp held t v d p):
  ∃A n c,∃ks:List Bool,v=.slice A n c/\Rd W 1 A n c (ks.map Value.bool)/\ks.length=n/\n+1<=Rows.uptoBulk d:=by
 obtain⟨A,n,c,zs,h1,h2,h3,h4⟩:=AOb Value.bool (λ_=>1) ht hc (AAO he) hv h;rw[ACb] at h4;exact⟨A,n,c,zs,h1,h2,h3,Aa⟩
theorem Xk(hl:laidOutB P=true){W W':AL}(hb:Below W.heap.size W W'){sp:Nat->Bool}: ∀(ts:List Am) (vs:List AQ) (ds:List (Dt H)) (ps:List GZ),
  (∀t∈ts,P.readableRec t=true/\t<P.types.size)->DataW.TrodAll enc P W 0 (λ_=>true) true ts vs ds ps->(∀x∈ps,x.block<W.heap.size)->(∀x∈ps,sp x.block=true)->DataW.TrodAll enc P W' 0 sp true ts vs ds ps
 | [],[],[],ps,_,h,_,_=>h
 |t::ts,v::vs,d::ds,ps,hr,h,hlt,hsp=>by
  obtain⟨p,q,h1,h2,rfl⟩:=h;refine⟨p,q,WideElems.Trod_stays hl (hr t AV).1 (hr t AV).2 h1 (λx hx=>hb.same (hlt x (by simp[hx]))) (λx hx=>hsp x (by simp[hx])),?_,rfl⟩;exact Xk hl hb ts vs ds q (λt ht=>hr t (by simp[ht])) h2 (λx hx=>hlt x (by simp[hx])) (λx hx=>hsp x (by simp[hx]))
theorem AHj{fn:Func}{tb:Am}{ds gs:List (Dt H)}
  (hl:laidOutB P=true) (hW:DataW.Whole enc P fn.params.toList s.vars false W args.toList ds gs before) (hvars:s.vars=[]) (hrt:fn.resultTypes= #[tb]) (htb:P.underlying tb=AA .bool)
  (hrd: ∀t∈fn.params.toList,P.readableRec t=true/\t<P.types.size)
  (hres:(s.fn H (ds++gs)).results=[.lit (.bool true)]) (hargs:(s.fn H (ds++gs)).args=ds) (hvs:(s.fn H (ds++gs)).vars=[]) (hb:Below W.heap.size W W'):
  s.post enc P fn false true false false W args (.bool true) W':=by
 have hW':=hW;obtain⟨p,q,hA,hV,rfl,hfz,hnd⟩:=hW;rw[hvars] at hV;obtain⟨rfl,rfl⟩:=trodVars_none hV;have hlt: ∀x∈p,x.block<W.heap.size:=λx hx=>hW'.lt x (by simp[hx]);refine pY (pa:=p) (pv:=[]) hW' (λ_ _ _=>?_) (λsp hsp=>?_) (λsp _=>?_) AV hb ?_
 ·rw[hrt,hres];exact trodAll_mk1 (shut_bool htb _)
 ·rw[hargs];exact Xk hl hb _ _ _ _ hrd hA hlt (λx hx=>hsp x (by simp[hx]))
 rw[hvars,hvs];rfl;intro j t r hj hr;rw[hrt] at hj hr
 match j,hj,hr with
 |0,hj,hr=>
  simp[Value.resultList] at hj hr;subst hj;subst hr;exact okWide_bool_mk htb _
end
end
section
variable {i:Nat}{P:BL}{e kt t:Am}
structure wW (P:BL) (kt:Am) {κ:Type} [DecidableEq κ] (kv:κ->AQ):Prop where
 find: ∀(k:κ) (es:List Du) (ks:List κ) (w:AL),es.map (·.key)=ks.map kv->(YH kt (kv k) es).run P w=.ok ((ks.idxOf? k).bind λi=>(es[i]?).map λe=>(i,e.val)) w
 check: ∀(k:κ) (e:Bool) (w:AL),(Ut e 10000 kt (kv k)).run P w=.ok () w
 bits: ∀(k:κ),Q9 10000 (kv k) (kv k)=true
 inj: ∀a b:κ,kv a=kv b->a=b
structure AAP (P:BL) (kt:Am) {κ:Type} [DecidableEq κ] (kv:κ->AQ) (w:AL) (k:κ) (ks:List κ):Prop where
 find: ∀es:List Du,es.map (·.key)=ks.map kv->(YH kt (kv k) es).run P w=.ok ((ks.idxOf? k).bind λi=>(es[i]?).map λe=>(i,e.val)) w
 check: ∀e:Bool,(Ut e 10000 kt (kv k)).run P w=.ok () w
 bits:Q9 10000 (kv k) (kv k)=true
theorem wW.at_{κ:Type}[DecidableEq κ]{kv:κ->AQ}(h:wW P kt kv)(w:AL)(k:κ)(ks:List κ):AAP P kt kv w k ks:=⟨λes he=>h.find k es ks w he,λe=>h.check k e w,h.bits k⟩
theorem findNow_spec{kind:TypeDesc}{κ:Type}[DecidableEq κ]{kv:κ->Value}(h: ∀a b:κ,Instr.sameNow kind (kv a) (kv b)=some (decide (a=b)))(k:κ): ∀(es:List MapEntry) (ks:List κ) (i:Nat),es.map (·.key)=ks.map kv->
  Instr.findNow kind (kv k) es i=some ((ks.idxOf? k).bind λj=>(es[j]?).map λe=>(i+j,e.val))
 | [],[],i,_=>by simp[Instr.findNow]| [],k'::ks,i,he=>by simp at he|e::es,[],i,he=>by simp at he
 |e::es,k'::ks,i,he=>by
  simp only[BN,Ib] at he;unfold Instr.findNow;rw[he.1,h];by_cases hk:k=k'
  ·subst hk;rw[RN,beq_self_eq_true];simp
  simp only[hk,decide_false];rw[findNow_spec h k es ks (i+1) he.2,RN];(have:(k'==k)=false:=by simp;exact λe=>hk e.symm);rw[this]
  cases ks.idxOf? k with
  |none=>rfl|some j=>
   simp[VM,mX 1 j]
theorem DC(h:P.underlying kt=some .string):wW P kt (λz:ByteArray=>Value.string z) where
 find:=λk es ks w he=>by
  have:=findNow_spec (kind:=.string) (kv:=λz:ByteArray=>WN z) (λa b=>by
   simp only[Instr.sameNow,DR]
   rw[mY,MapKept.bytes_beq];simp) k es ks 0 he
  simp only[Na] at this;simp[YH,IQ h,this]
 check:=λk e w=>by
  show (Ut e (9999+1) kt (.string k)).run P w=_;unfold Ut;simp[IQ h]
 bits:=λk=>by simp only[Q9];exact (MapKept.bytes_beq k k).2 rfl
 inj:=λa b h=>by injection h
theorem Sv{α β:Type}(f:α->β)(l:List α)(i:Nat):(l.map f).eraseIdx i=(l.eraseIdx i).map f:=by
 induction l generalizing i with
 |nil=>rfl
 |cons x r ih=>cases i with
  |zero=>rfl|succ i=>simp[ih]
section lists
variable {κ α:Type} [DecidableEq κ]
def BK (m:List (κ×α)) (k:κ):Option α:=((m.map Ac).idxOf? k).bind λi=>(m[i]?).map (·.2)
def Dq (m:List (κ×α)) (k:κ) (v:α):List (κ×α):=match (m.map Ac).idxOf? k with
 |some i=>m.set i (k,v)|none=>m++[(k,v)]
def JC (m:List (κ×α)) (k:κ):List (κ×α):=match (m.map Ac).idxOf? k with
 |some i=>m.eraseIdx i|none=>m
theorem Js{l:List κ}{x:κ}(h:l.idxOf? x=AA i):l[i]? =AA x:=by
 induction l generalizing i with
 |nil=>simp at h|cons y r ih=>
  simp only[RN] at h;split at h
  ·rename_i hxy;(cases h);simp at hxy;simp[hxy]
  cases hr:r.idxOf? x with
  |none=>rw[hr] at h;simp at h|some k=>
   rw[hr] at h;simp at h;subst h;simpa using ih hr
theorem Sz{l:List κ}{x:κ}:l.idxOf? x=AB↔x∉l:=by
 induction l with
 |nil=>simp|cons y r ih=>
  simp only[RN,BD,not_or];split
  ·rename_i h;simp at h;simp[h]
  rename_i h;(have h': ¬x=y:=by intro e;exact h (by simp[e]));rw[Option.map_eq_none_iff,ih];simp[h']
theorem ACc{l:List κ}(hn:l.Nodup){x:κ}(h:l[i]? =AA x):l.idxOf? x=AA i:=by
 have hm:x∈l:=Bq h
 cases hx:l.idxOf? x with
 |none=>exact Ak hm (Sz.1 hx)|some k=>
  have hk:=Js hx;have hkl:=(CP.1 hk).1;have:=(List.getElem?_inj (i:=k) (j:=i) hkl hn).1 (by rw[hk,h]);rw[this]
theorem CQ{m:List (κ×α)}{k:κ}{v:α}(h:BK m k=AA v):(k,v)∈m:=by
 unfold BK at h
 cases hx:(m.map Ac).idxOf? k with
 |none=>rw[hx] at h;cases h|some i=>
  rw[hx] at h;simp only[WI] at h;have h1:=Js hx;rw[Bg] at h1
  cases hm:m[i]? with
  |none=>rw[hm] at h;cases h|some p=>
   rw[hm] at h h1;simp at h h1;have:=Bq hm;rw[<- h1,<- h];exact this
theorem Ri{m:List (κ×α)}{k:κ}{v:α}(hn:(m.map Ac).Nodup)(h:(k,v)∈m):BK m k=AA v:=by
 obtain⟨i,hi⟩:=RP h;(have:(m.map Ac)[i]? =AA k:=by rw[Bg,hi];rfl);unfold BK;rw[ACc hn this];simp[hi]
theorem Eh{m:List (κ×α)}{k:κ}:BK m k=AB↔k∉m.map Ac:=by
 unfold BK;constructor
 ·intro h
  cases hx:(m.map Ac).idxOf? k with
  |none=>exact Sz.1 hx|some i=>
   rw[hx] at h;have h1:=Js hx;rw[Bg] at h1;simp only[WI] at h
   cases hm:m[i]? with|none=>rw[hm] at h1;cases h1|some p=>rw[hm] at h;cases h
 intro h;rw[Sz.2 h];rfl
theorem PZ{m:List (κ×α)}(hn:(m.map Ac).Nodup)(k:κ)(v:α):((Dq m k v).map Ac).Nodup:=by
 unfold Dq
 cases hx:(m.map Ac).idxOf? k with
 |none=>
  simp only[Ey,BN,EJ];rw[QD];exact⟨hn,AV,λa ha b hb=>by simp at hb;subst hb;rintro rfl;exact Sz.1 hx ha⟩
 |some i=>
  have h1:=Js hx;simp only[VO]
  have:(m.map Ac).set i k=m.map Ac:=by
   apply OQ;intro j;rw[YJ];split
   ·rename_i hij;subst hij;rw[BZ (CP.1 h1).1,h1]
   rfl
  rw[this];exact hn
theorem S9{m:List (κ×α)}(hn:(m.map Ac).Nodup)(k k':κ)(v:α):BK (Dq m k v) k'=if k=k' then AA v else BK m k':=by
 have hn':=PZ hn k v;by_cases h:k=k'
 ·subst h;rw[BZ rfl];apply Ri hn';unfold Dq
  cases hx:(m.map Ac).idxOf? k with
  |none=>simp|some i=>
   have h1:=(CP.1 (Js hx)).1;simp at h1;exact Bq (i:=i) (by rw[YJ,BZ rfl,BZ h1])
 rw[BM h]
 cases hg:BK m k' with
 |some u=>
  apply Ri hn';have hm:=CQ hg;unfold Dq
  cases hx:(m.map Ac).idxOf? k with
  |none=>simp[hm]|some i=>
   obtain⟨j,hj⟩:=RP hm;have h1:=Js hx;refine Bq (i:=j) ?_;rw[YJ];split
   ·rename_i hij;subst hij;rw[Bg,hj] at h1;simp at h1;exact Ak h1.symm h
   exact hj
 |none=>
  rw[Eh] at hg⊢;unfold Dq
  cases hx:(m.map Ac).idxOf? k with
  |none=>
   simp only[Ey,BN,EJ,Bd,CJ,not_or];exact⟨hg,λe=>h e.symm⟩
  |some i=>
   intro hm;simp only[VO] at hm;rcases kz hm with h2|h2;exact hg h2;exact h h2.symm
end lists
def Mp {κ:Type} (w:AL) (b:Nat) (kv:κ->AQ) (m:List (κ×AQ)):Prop:=
 ∃es clock,w.heap[b]? =AA (.map es clock)/\es.toList.map (λe=>(e.key,e.val))=m.map (λp=>(kv p.1,p.2))/\(m.map Ac).Nodup/\(es.toList.map (·.born)).Nodup/\∀e∈es.toList,e.born<clock
section mp0
variable {κ:Type} {w w':AL} {b:Nat} {kv:κ->AQ} {m:List (κ×AQ)} {L:List Nat}
theorem Mp.lt(h:Mp w b kv m):b<w.heap.size:=by
 obtain⟨es,c,hb,_⟩:=h;exact (Dj.1 hb).1
theorem Mp.Aj(h:Mp w b kv m)(hc:AZ L w w')(hn:b∉L):Mp w' b kv m:=by
 have hl:=h.lt;obtain⟨es,c,hb,hr⟩:=h;exact⟨es,c,(hc.block b hl hn).trans hb,hr⟩
theorem Mp.nodup(h:Mp w b kv m):(m.map Ac).Nodup:=by
 obtain⟨es,c,_,_,h3,_⟩:=h;exact h3
theorem Mp.made(w:AL)(kv:κ->AQ):Mp (w.alloc (.map #[] 0)) w.heap.size kv []:=⟨#[],0,(MapKept.heap_alloc w _).1,AV,AV,AV,AV⟩
theorem Mp.keys{es:Array Du}(h:es.toList.map (λe=>(e.key,e.val))=m.map (λp=>(kv p.1,p.2))):es.toList.map (·.key)=(m.map Ac).map kv:=by
 have:=congrArg (List.map Ac) h;rw[Eo,Eo] at this;rw[Eo];exact this
end mp0
section mp
variable {κ:Type} [DecidableEq κ] {P:BL} {w w':AL} {b:Nat} {kv:κ->AQ} {m:List (κ×AQ)}
theorem Mp.wX(h:Mp w b kv m)(k:κ)(hK:AAP P kt kv w k (m.map Ac))(ht:P.underlying t=AA (.map kt e)){z:AQ}(hz:(GY e).run P w=.ok z w):
  (P7 t (.map (AA b)) (kv k) false).run P w=.ok ((BK m k).getD z) w/\
  (P7 t (.map (AA b)) (kv k) true).run P w=.ok (.tuple #[(BK m k).getD z,.bool (BK m k).isSome]) w:=by
 obtain⟨es,c,hb,he,_⟩:=h;have hf:=hK.find es.toList (Mp.keys he)
 have hv: ∀i:Nat,(es.toList[i]?).map (λe:Du=>e.val)=(m[i]?).map (λp:κ×AQ=>p.2):=λi=>by
  have:=congrArg (λl=>(l[i]?).map Prod.snd) he;simp only[Bg,Option.map_map] at this;exact this
 have hrun:(getObj b).run P w=.ok (.map es c) w:=by simp[getObj,Dw,hb]
 have key: ∀(ok:Bool),(P7 t (.map (AA b)) (kv k) ok).run P w=.ok (if ok then .tuple #[(BK m k).getD z,.bool (BK m k).isSome] else (BK m k).getD z) w:=by
  intro ok;unfold P7 BK;simp only[Et,IQ ht,O6,hrun,Yz,hK.check,hf]
  cases hx:(m.map Ac).idxOf? k with
  |none=>cases ok<;>simp[hz]|some i=>
   have h1:=Js hx;rw[Bg] at h1;have:=hv i
   cases hmi:m[i]? with
   |none=>rw[hmi] at h1;cases h1|some p=>
    rw[hmi] at this
    cases hei:es.toList[i]? with
    |none=>rw[hei] at this;cases this|some e0=>
     rw[hei] at this;simp at this;(have ATq:es[i]? =AA e0:=by simpa using hei);cases ok<;>simp[ATq,hmi,this]
 exact⟨key false,key true⟩
theorem Mp.lookup(h:Mp w b kv m){t kt e:Am}(hK:wW P kt kv)(ht:P.underlying t=AA (.map kt e)){z:AQ}(hz:(GY e).run P w=.ok z w)(k:κ):
  (P7 t (.map (AA b)) (kv k) false).run P w=.ok ((BK m k).getD z) w/\
  (P7 t (.map (AA b)) (kv k) true).run P w=.ok (.tuple #[(BK m k).getD z,.bool (BK m k).isSome]) w:=h.wX k (hK.at_ w k _) ht hz
theorem Mp.gV(h:Mp w b kv m)(k:κ)(hK:AAP P kt kv w k (m.map Ac))(ht:P.underlying t=AA (.map kt e))(v:AQ):
  ∃w',(iU t (.map (AA b)) (kv k) v).run P w=.ok () w'/\Mp w' b kv (Dq m k v)/\AZ [b] w w':=by
 obtain⟨es,c,hb,he,hn,hs,hc⟩:=h;have hf:=hK.find es.toList (Mp.keys he);(have hrun:(getObj b).run P w=.ok (.map es c) w:=by simp[getObj,Dw,hb]);have hlt:b<w.heap.size:=(Dj.1 hb).1;have hset: ∀o:Obj,(I8 b o).run P w=.ok () {w with heap:=w.heap.setIfInBounds b o}:=λo=>by simp[I8,Dw,hb]
 have EX: ∀o:Obj,AZ [b] w {w with heap:=w.heap.setIfInBounds b o}:=λo=>⟨rfl,rfl,rfl,AV,λi hi hne=>by
  simp only[ABQ]
  rw[BM (λe=>hne (by simp[e]))]⟩
 have hat: ∀o:Obj,({w with heap:=w.heap.setIfInBounds b o}:AL).heap[b]? =AA o:=λo=>by simp[hlt]
 cases hx:(m.map Ac).idxOf? k with
 |none=>
  refine⟨_,?_,⟨es.push {key:=kv k,val:=v,born:=c},c+1,hat _,?_,PZ hn k v,?_,?_⟩,EX _⟩
  ·unfold iU;simp only[Et,IQ ht,O6,hrun,hK.check,hf,hx];simp[hset]
  simp only[Dq,hx,yV,Ey,he,BN,EJ]
  ·simp only[yV,Ey,BN,EJ];rw[QD];refine⟨hs,AV,λa ha b' hb'=>?_⟩;obtain⟨e0,he0,rfl⟩:=Bv.1 ha;simp at hb';subst hb';have:=hc e0 he0;omega
  intro e0 he0;simp only[yV,Bd,CJ] at he0;rcases he0 with he0|rfl;have:=hc e0 he0;omega;simp
 |some i=>
  have h1:=Js hx
  have hil:i<es.size:=by
   have:=(CP.1 h1).1;have e2:=congrArg Ky he;simp at this e2;omega
  have hei:es[i]? =AA es[i]:=Fa hil
  have hkey:(es[i]).key=kv k:=by
   have e3:=congrArg (λl=>l[i]?) (Mp.keys he);simp only[Bg,ZQ,hei] at e3;rw[Bg] at h1
   cases hmi:m[i]? with
   |none=>rw[hmi] at h1;cases h1|some p=>
    rw[hmi] at e3 h1;simp at e3 h1;rw[e3,h1]
  have hml:(es.modify i λe=>{e with key:=kv k,val:=v}).toList=es.toList.set i {es[i] with key:=kv k,val:=v}:=by
   apply OQ;intro j;rw[ZQ,mW,YJ,ZQ];by_cases hij:i=j;subst hij;simp[hil];rw[BM hij,BM hij]
  refine⟨_,?_,⟨es.modify i λe=>{e with key:=kv k,val:=v},c,hat _,?_,PZ hn k v,?_,?_⟩,EX _⟩
  ·unfold iU;simp only[Et,IQ ht,O6,hrun,hK.check,hf,hx];(have ARr:(ABK (kv k) (kv k)).run P w=.ok (kv k) w:=by simp[ABK,hK.bits]);simp[hei,hkey,ARr,hset]
  ·rw[hml];simp only[Dq,hx,VO,he]
  ·rw[hml,VO]
   have:(es.toList.map (·.born)).set i (es[i]).born=es.toList.map (·.born):=by
    apply OQ;intro j;rw[YJ];split
    ·rename_i hij;subst hij;simp[hil]
    rfl
   rw[this];exact hs
  intro e0 he0;rw[hml] at he0;rcases kz he0 with h2|h2;exact hc e0 h2;subst h2;exact hc es[i] AV
theorem Mp.update(h:Mp w b kv m)(hK:wW P kt kv)(ht:P.underlying t=AA (.map kt e))(k:κ)(v:AQ):
  ∃w',(iU t (.map (AA b)) (kv k) v).run P w=.ok () w'/\Mp w' b kv (Dq m k v)/\AZ [b] w w':=h.gV k (hK.at_ w k _) ht v
theorem Mp.del(h:Mp w b kv m){ty:Am}(hK:wW P kt kv)(ht:P.underlying t=AA (.map kt e))(k:κ)(at2:Am):
  ∃w',(uB #[t,at2] ty #[.map (AA b),kv k]).run P w=.ok (.tuple #[]) w'/\Mp w' b kv (JC m k)/\AZ [b] w w':=by
 obtain⟨es,c,hb,he,hn,hs,hc⟩:=h;have hf:=hK.find k es.toList _ w (Mp.keys he);(have hrun:(getObj b).run P w=.ok (.map es c) w:=by simp[getObj,Dw,hb]);have hlt:b<w.heap.size:=(Dj.1 hb).1;have hset: ∀o:Obj,(I8 b o).run P w=.ok () {w with heap:=w.heap.setIfInBounds b o}:=λo=>by simp[I8,Dw,hb]
 have EX: ∀o:Obj,AZ [b] w {w with heap:=w.heap.setIfInBounds b o}:=λo=>⟨rfl,rfl,rfl,AV,λi hi hne=>by
  simp only[ABQ]
  rw[BM (λe=>hne (by simp[e]))]⟩
 have hat: ∀o:Obj,({w with heap:=w.heap.setIfInBounds b o}:AL).heap[b]? =AA o:=λo=>by simp[hlt]
 cases hx:(m.map Ac).idxOf? k with
 |none=>
  refine⟨_,?_,⟨es,c,hat _,by simp only[JC,hx,he],by simp only[JC,hx];exact hn,hs,hc⟩,EX _⟩;unfold uB;simp[IQ ht,hrun,hK.check,hf,hx,hset]
 |some i=>
  have h1:=Js hx
  have hil:i<es.size:=by
   have:=(CP.1 h1).1;have e2:=congrArg Ky he;simp at this e2;omega
  have hei:es[i]? =AA es[i]:=Fa hil
  have hel:(es.eraseIdxIfInBounds i).toList=es.toList.eraseIdx i:=by
   rw[Array.eraseIdxIfInBounds,dif_pos hil,Array.toList_eraseIdx]
  refine⟨_,?_,⟨es.eraseIdxIfInBounds i,c,hat _,?_,?_,?_,?_⟩,EX _⟩
  ·unfold uB;simp[IQ ht,hrun,hK.check,hf,hx,hset,hei]
  ·rw[hel];simp only[JC,hx,<- Sv,he]
  ·simp only[JC,hx,<- Sv];exact hn.sublist (yX _ _)
  ·rw[hel,<- Sv];exact hs.sublist (yX _ _)
  intro e0 he0;rw[hel] at he0;exact hc e0 ((yX _ _).subset he0)
end mp
end
section
variable {c j n:Nat}{A:Option Af}{P:BL}{t tn:Am}{w:AL}
abbrev bv (zs:List Int):List AQ:=zs.map (Kw .u8)
abbrev iv (zs:List Int):List AQ:=zs.map (Kw .i64)
theorem AAQ(zs:List Int): ∀u∈bv zs,u.oneCell'=true:=ints_oneCell _ _
def Lu (e:Am) (sz:Nat) (w:AL) (xs:List AQ) (n:Nat) (en:FT) (w':AL):Prop:=
 ∃A c,en=.returned (.slice A n c)/\Own w' e sz A n c xs/\AZ [] w w'/\∀k∈bo A,w.heap.size<=k
theorem Rz:Ety Ag 62 5 1 1 (.int .u8 0):=.mk' wU Aq rfl Ar
theorem AKj:Ety Ag 81 3 1 8 (.int .i64 0):=.mk' ATn Aq rfl Ar
theorem ACd(k:IntKind)(x:Int): ∀u∈(#[Kw k x]:Array AQ).toList,u.oneCell'=true:=by simp[Kz]
theorem take_snoc{α:Type}(l:List α)(k:Nat)(x:α)(h:l[k]? =AA x):l.take (k+1)=l.take k++[x]:=by
 rw[RQ,h];rfl
theorem pg{k:IntKind}{zs:List Int}(h:Rd w 1 A n c (zs.map (Kw k)))(hj:j<n):
  ∃ad x,A=AA ad/\zs[j]? =AA x/\w.cell? (ad.add j)=AA (.int k x):=by
 obtain⟨ad,u,h1,h2,h3⟩:=h.gU hj;rw[Bg] at h2
 cases hz:zs[j]? with|none=>rw[hz] at h2;cases h2|some x=>rw[hz] at h2;simp at h2;subst h2;exact⟨ad,x,h1,rfl,h3⟩
theorem wY(A:Option Af)(n c:Nat)(zs:List Int)(w:AL)(hn:n<=1073741824)(hrd:Rd w 1 A n c (bv zs)):
  Au Ag 53 #[.slice A n c] w (Lu 5 1 w (bv zs) n):=by
 (have hl:zs.length=n:=by have:=hrd.1;simp at this;omega);have HR:=AP hrd;have HL:=AP hl;clear hrd hl;go_enter ANq,Tryz.ntmps53;go_wp2;go_loopw [3,4] (λv i wr=>∃(k:Nat) (A':Option Af) (c':Nat),k<=n/\i=.int .i64 k/\v=.slice A' k c'/\Own wr 5 1 A' k c' ((bv zs).take k)/\AZ [] w wr/\(∀k∈bo A',w.heap.size<=k)) (λ_ i _=>n - (intOf i).toNat)
 case atStart=>
  exact⟨0,_,0,Dn _,rfl,rfl,Own.lit w 5 1 #[] 0 Ar rfl,(AZ.refl _ _).alloc _,AV⟩
 obtain⟨k,A',c',hk,rfl,rfl,hown,EX,hnew⟩:=hrel;by_cases hlt:k<n
 ·obtain⟨ad,x,rfl,hx,hcell⟩:=pg (HR.out.Aj EX AV) hlt;have HX:=AP hx;have HN:=AP hnew;clear hx hnew;(go_wp2_with (at_builtin;refine EW rfl _ _ rfl Rz rfl (hown.Aj ((AZ.refl [] wr).alloc _) AV) rfl (Own.lit wr 5 1 #[.int .u8 x] 1 Ar rfl).rd (ACd _ _) OH Aa ?_;intro A2 c2 w2 hown2 Pg KF _));go_roundw
  case rel=>
   refine⟨k+1,A2,c2,Aa,by go_num,rfl,?_,(EX.alloc _).trans Pg (λy hy=>.inr (HN.out y hy)),λy hy=>?_⟩;rw[take_snoc _ _ (.int .u8 x) (by simp[HX.out])];exact hown2;rcases KF y hy with h1|h1;exact HN.out y h1;have h2:=EX.size;simp at h1;omega
  simp[intOf];omega
 go_wp2;go_ret;(have hkn:k=n:=by omega);subst hkn;exact⟨A',c',rfl,by rw[<- Ep (l:=bv zs) (i:=k) (by simp[HL.out])];exact hown,EX,hnew⟩
theorem clone_any(A:Option Af)(n c:Nat)(zs:List Int)(w:AL)(hn:n<=1073741824)(hrd:Rd w 1 A n c (bv zs)):
  Au Ag 78 #[.slice A n c] w (Lu 5 1 w (bv zs) n):=by
 cases A with
 |none=>
  have hc:=hrd.2.2.2.1 rfl;(have hn0:n=0:=by have:=hrd.2.1;omega);subst hc;subst hn0;have hz:bv zs=[]:=Tf (by simpa using hrd.1);have HZ:=AP hz;have qT:=λ(w:AL)=>Lib.run_eql_slice_nil (P:=Ag) w 62 5 AB 0 0 0 0 wU;clear hz hrd;go_enter AJ3,Tryz.ntmps78;go_wp2;go_ret;exact⟨AB,0,rfl,by rw[HZ.out];exact Own.nil _ _ _,AZ.refl _ _,AV⟩
 |some ad=>
  have HR:=AP hrd;clear hrd;have qT:=λ(w:AL)=>Lib.run_eql_slice_nil (P:=Ag) w 62 5 (AA ad) n c 0 0 wU;go_enter AJ3,Tryz.ntmps78;(go_wp2_with (at_builtin;refine EW rfl _ _ rfl Rz rfl (Own.lit w 5 1 #[] 0 Ar rfl) rfl (HR.out.Aj ((AZ.refl [] w).alloc _) AV) (AAQ zs) OH Aa ?_;intro A2 c2 w3 hown4 ARs ARt _));go_ret
  exact⟨A2,c2,rfl,by simpa using hown4,((AZ.refl [] w).alloc _).trans ARs AV,λk hk=>by
   rcases ARt k hk with h1|h1;simp at h1;omega
   have:=h1.1;simp at this;omega⟩
theorem WW(z:AQ)(hz:z.cells= #[z])(k:Nat):(Nz z.cells k).toList=MN k z:=by
 apply OQ;intro i;rw[hz];simp only[Nz,ZR,Array.toList_range,Bg,AFs];by_cases h:i<k
 ·rw[CB (by simpa using h)];simp[h,yY]
 rw[IG (by simpa using h)];simp[h]
theorem pq{ty e:Am}{bytes:Nat}{z:AQ}(he:Ety P t e 1 bytes z)(htn:P.underlying tn=AA (.int .i64))(hz1:z.cells= #[z])(hz2:z.oneCell'=true)
  {A:Option Af} {n c:Nat} {xs:List AQ} (hown:Own w e 1 A n c xs) (k:Nat) (h63:n+k<=ET) (hb:(n+k)*bytes<=140737488355328):
  ∃A' c' w',(P6 #[t,tn] ty #[.slice A n c,.int .i64 k]).run P w=.ok (.slice A' (n+k) c') w'/\Own w' e 1 A' (n+k) c' (xs++MN k z)/\AZ (bo A) w w'/\
   (∀k∈bo A',k∈bo A\/(w.heap.size<=k/\k<w'.heap.size)):=by
 obtain⟨ht,⟨i,hi,hz,hsz,hby⟩,hzs,hpos⟩:=he;subst hby
 have hkb:k*i.bytes<=281474976710656:=by
  have:k*i.bytes<=(n+k)*i.bytes:=Td _ Aa;omega
 (have hw:IntKind.i64.wrap (k:Int)=k:=by rw[NZ];simp only[ET] at h63;omega);(have hneg: ¬((k:Int)<0):=by omega);(have h48i: ¬(281474976710656<(k:Int)*(i.bytes:Int)):=by rw[<- Int.natCast_mul];omega);by_cases hk:k=0
 ·subst hk;(have hw0:IntKind.i64.wrap 0=0:=by decide);have hnc:n<=c:=hown.rd.2.1;refine⟨A,c,w,?_,by simpa using hown,AZ.refl _ _,λk hk=>.inl hk⟩;cases A<;>simp[P6,IQ ht,IQ htn,sizeOf,I7,hi,asInt,asIntOf,hw0,hnc,storeCells]
 have hns: ¬(k*i.size=0):=by rw[hsz];omega
 have grown: ∀old,∃A' c' w',(.ok (.slice (AA ⟨w.heap.size,0,AB⟩) (n+k) (grownCap w (n+k) old e)) (w.drew.alloc (.cells (xs.toArray++Nz z.cells k++Nz z.cells (grownCap w (n+k) old e - (n+k))) e)):Result AQ)=.ok (.slice A' (n+k) c') w'/\
   Own w' e 1 A' (n+k) c' (xs++MN k z)/\AZ (bo A) w w'/\(∀k∈bo A',k∈bo A\/(w.heap.size<=k/\k<w'.heap.size)):=by
  intro old;have hge:=grownCap_ge w (n+k) old e;have hcm:grownCap w (n+k) old e<=ET:=grownCap_le_maxLen w (n+k) old e h63;(have hxl:xs.length=n:=by have:=hown.1;omega);refine⟨_,_,_,rfl,⟨by simp[hxl],.inr ⟨w.heap.size,_,_,rfl,Dn _,heap_alloc_new w.drew _,hge,hcm,?_,?_⟩⟩,((AZ.refl _ _).drew).alloc _,?_⟩
  ·simp only[nG,Iw,size_zeroCells,hzs,hxl];omega
  ·simp only[AIe,WW z hz1];exact yZ (by simp[hxl])
  intro j hj;right;simp at hj;subst hj;simp
 by_cases hroom:n+k<=c
 ·rcases hown.form with ⟨rfl,rfl,rfl,rfl⟩|⟨g,cur,rfl,hbk,hnc,hcm,hcs,htk⟩;omega;(have hfit:n*1+(MN k z).length<=cur.size:=by simp;omega);have hst:=run_storeCells_at P g (n*1) e (MN k z) 0 cur w hbk (by simpa using hfit) (by simp[hz2]);simp only[Nat.add_zero,OT,AL9] at hst;(have hxl:xs.length=n:=by have:=hown.1;omega);(have hcl:cur.toList.length=cur.size:=by simp);refine⟨AA ⟨g,0,AB⟩,c,_,?_,⟨by simp[hown.1],.inr ⟨g,c,_,rfl,Dn _,setRow_heap w g cur (cur.toList.take n++MN k z++cur.toList.drop (n+k)).toArray e _ hbk,hroom,hcm,?_,?_⟩⟩,⟨rfl,rfl,rfl,by simp[World.setRow],λj _ hj=>setRow_other w g j _ (by simpa using hj)⟩,λj hj=>.inl hj⟩;simp[P6,IQ ht,IQ htn,sizeOf,I7,GY,hi,hz,asInt,asIntOf,hw,hneg,h48i,hroom,Addr.add_lit,hsz,hk,WW z hz1,hst];simp;omega;simp only[OT] at htk⊢;rw[<- htk];exact yZ (by simp;omega)
 have hc:c<n+k:=by omega
 have hold:(Mc i.size n (.slice A n c)).run P w.drew=.ok xs.toArray w.drew:=by
  rcases hown.form with ⟨rfl,rfl,rfl,rfl⟩|⟨g,cur,rfl,hbk,hnc,hcm,hcs,htk⟩;exact run_firstCells_none (P:=P) w.drew _ _ _ _;exact run_firstCells_some (P:=P) w.drew i.size n ⟨g,0,AB⟩ n c xs (by rw[hsz];exact hown.1) (World.ownsRow.cells hown (g:=g) rfl)
 have e0:=Lib.run_append_grow_zeros (P:=P) w t tn ty e i z .i64 .i64 ht htn hi hz A n c xs hold k Aa Aa hc (by simp only[ET] at h63;omega) hkb (growslice_fits Aa hb);rw[e0];exact grown c
theorem dC{ops:Array BU}{rest:List BU}{o:BU}{a:Act}{Q:Exit->Act->AL->Prop}(hgd:o.guard=AB)(s x:DU)
  (ho:o.op=.call {callee:=.builtin .append,args:=#[s,x],argTypes:=#[t,tn]})
  {e:Am} {bytes:Nat} {z:AQ} (he:Ety P t e 1 bytes z) (htn:P.underlying tn=AA (.int .i64)) (hz1:z.cells= #[z]) (hz2:z.oneCell'=true)
  {A:Option Af} {n c:Nat} {xs:List AQ} (hs:a.eval s=.slice A n c) (hown:Own w e 1 A n c xs) (k:Nat) (hx:a.eval x=.int .i64 k) (h63:n+k<=ET) (hb:(n+k)*bytes<=140737488355328)
  (h: ∀A' c' w',Own w' e 1 A' (n+k) c' (xs++MN k z)->AZ (bo A) w w'->(∀k∈bo A',k∈bo A\/(w.heap.size<=k/\k<w'.heap.size))->
   wpList P ops Q rest (a.put o.dst (.slice A' (n+k) c')) w'):wpList P ops Q (o::rest) a w:=by
 obtain⟨A',c',w',hr,h2,h3,h4⟩:=pq (ty:=o.type) he htn hz1 hz2 hown k h63 hb;exact Lib.wpList_append_run w hgd s x t tn ho _ _ hs hx _ w' hr (h A' c' w' h2 h3 h4)
def ends:Nat->List (List Int)->List Int
 |_,[]=>[]|b,x::r=>((b+x.length:Nat):Int)::ends (b+x.length) r
theorem AFD(b:Nat)(ws:List (List Int))(x:List Int):ends b (ws++[x])=ends b ws++[((b+ws.flatten.length+x.length:Nat):Int)]:=by
 induction ws generalizing b with|nil=>simp[ends]|cons y r ih=>simp[ends,ih];omega
theorem AKk(b:Nat)(ws:List (List Int))(i:Nat)(x:List Int)(h:ws[i]? =AA x):(ends b ws)[i]? =AA (((b+(ws.take i).flatten.length+x.length:Nat):Int)):=by
 induction ws generalizing b i with
 |nil=>simp at h|cons y r ih=>
  cases i with|zero=>simp at h;subst h;simp[ends]|succ i=>simp at h;simp[ends,ih _ i h];omega
theorem TA(ws:List (List Int))(x:List Int):(ws++[x]).flatten.length=ws.flatten.length+x.length:=by
 rw[lC,Gz];simp
def Wn (w:AL) (g:Nat) (L:List Nat) (base:List Int) (ws:List (List Int)):Prop:=
 ∃A n c M m d s,Bl w g 183 #[.slice A n c,.int .i64 (s:Nat),.slice M m d]/\Own w 5 1 A n c (bv (base++ws.flatten))/\
  Own w 3 1 M m d (iv (ends base.length ws))/\L=g::(bo A++bo M)/\n=base.length+ws.flatten.length/\m=ws.length/\s=base.length
theorem Wn.lt{w:AL}{g:Nat}{L:List Nat}{base:List Int}{ws:List (List Int)}(h:Wn w g L base ws): ∀k∈L,k<w.heap.size:=by
 obtain⟨A,n,c,M,m,d,s,hb,h1,h2,rfl,_⟩:=h;intro k hk;simp only[BD,Bd] at hk;rcases hk with rfl|hk|hk;exact hb.lt;exact h1.lt k hk;exact h2.lt k hk
theorem Wn.Aj{w w':AL}{g:Nat}{L M:List Nat}{base:List Int}{ws:List (List Int)}(h:Wn w g L base ws)(hc:AZ M w w')(hn: ∀k∈L,k∉M):Wn w' g L base ws:=by
 obtain⟨A,n,c,M,m,d,s,hb,h1,h2,rfl,e⟩:=h;exact⟨A,n,c,M,m,d,s,hb.Aj hc (hn g AV),h1.Aj hc (λk hk=>hn k (by simp[hk])),h2.Aj hc (λk hk=>hn k (by simp[hk])),rfl,e⟩
def AMr (w:AL) (zs:List Int) (e:FT) (w':AL):Prop:=
 ∃g L,e=.returned (.pointer (AA ⟨g,0,AB⟩))/\Wn w' g L zs []/\AZ [] w w'/\∀k∈L,w.heap.size<=k
theorem new_any(A:Option Af)(n c:Nat)(zs:List Int)(w:AL)(hn:n<=1073741824)(hrd:Rd w 1 A n c (bv zs)):
  Au Ag 59 #[.slice A n c] w (AMr w zs):=by
 (have hl:zs.length=n:=by have:=hrd.1;simp at this;omega);have HL:=AP hl;clear hl;have k78:= @AKQ;go_enter ANv,Tryz.ntmps59;(go_wp2_with (go_at_call 78;refine (clone_any A n c zs _ hn hrd).mono ?_;rintro e w1 ⟨A1,c1,rfl,hown,EX,hnew⟩));go_ret;have ho:=HL.out;subst ho;refine⟨w1.heap.size,_,rfl,⟨A1,_,c1,AB,0,0,_,Bl.new w1 183 _,?_,?_,rfl,?_,rfl,rfl⟩,EX.alloc _,?_⟩;simpa using hown.Aj ((AZ.refl [] w1).alloc _) AV;exact Own.nil _ _ _;simp;have:=EX.size;intro k hk;simp at hk;rcases hk with rfl|hk;exact this;exact hnew k hk
def AKl (w:AL) (g:Nat) (L:List Nat) (base:List Int) (ws:List (List Int)) (e:FT) (w':AL):Prop:=
 ∃L',e=.returned (.tuple #[])/\Wn w' g L' base ws/\AZ L w w'/\∀k∈L',k∈L\/w.heap.size<=k
theorem AAR(g:Nat)(L:List Nat)(base:List Int)(ws:List (List Int))(B:Option Af)(k d:Nat)(xs:List Int)(w:AL)(h:Wn w g L base ws)(hk:0<k)(hlen:base.length+ws.flatten.length+k<=1073741824)
  (hws:ws.length<=1073741824) (hrd:Rd w 1 B k d (bv xs)):
  Au Ag 180 #[.pointer (AA ⟨g,0,AB⟩),.slice B k d] w (AKl w g L base (ws++[xs])):=by
 obtain⟨A,n,c,M,m,dm,s,hb,h1,h2,rfl,hn,hm,hs⟩:=h;(have hlx:xs.length=k:=by have:=hrd.1;simp at this;omega);(have n63:n+k<=1073741824:=by omega);(have m63:m<=1073741824:=by omega);have HE:=AP (show n=base.length+ws.flatten.length/\m=ws.length/\s=base.length/\xs.length=k from ⟨hn,hm,hs,hlx⟩);have HR:=AP hrd;have HO:=AP h1;have HM:=AP h2;have HB:=AP hb;have c0:=hb.cell 0;have c1:=hb.cell 1;have c2:=hb.cell 2;have f0:=hb.frozen 0;simp at c0 c1 c2;clear hrd h1 h2 hb hn hm hs hlx hws;go_enter AKF,Tryz.ntmps180;(go_wp2_with (at_builtin;refine EW rfl _ _ rfl Rz rfl HO.out rfl HR.out (AAQ _) OH Aa ?_;intro A1 cc1 w1 hown1 Zr pz _;have ff:=(HB.out.Aj Zr (λhh=>HO.out.GV HB.out Ar g hh rfl));have d0:=ff.cell 0;have d1:=ff.cell 1;have d2:=ff.cell 2;have e0:=ff.frozen 0;have e2:=ff.frozen 2;simp at d0 d1 d2));(have hb2:Bl (w1.setCell ⟨g,0,AB⟩ (.slice A1 (n+k) cc1)) g 183 #[.slice A1 (n+k) cc1,.int .i64 (s:Nat),.slice M m dm]:=by simpa using ff.FX 0 (.slice A1 (n+k) cc1));have hch:AZ [g] w1 (w1.setCell ⟨g,0,AB⟩ (.slice A1 (n+k) cc1)):=(AZ.refl [g] w1).setCell AV _;have HA1:=AP (hown1.Aj hch (λj hj hh=>hown1.GV ff Ar j hj (by simpa using hh)));have hM1:=HM.out.Aj Zr (λj hj hh=>HM.out.own_ne HO.out Ar j hj hh);have HM1:=AP (hM1.Aj hch (λj hj hh=>hM1.GV ff Ar j hj (by simpa using hh)));have HC:=AP (show AZ (g::bo A) w (w1.setCell ⟨g,0,AB⟩ (.slice A1 (n+k) cc1)) from (Zr.mono (by simp+contextual)).trans hch AV);clear hM1 hch d0 d1 d2 e0 e2 ff c0 c1 c2 f0
 generalize w1.setCell ⟨g,0,AB⟩ (.slice A1 (n+k) cc1)=W2 at*
 have d0:=hb2.cell 0;have d2:=hb2.cell 2;have e2:=hb2.frozen 2;have d2a:=λo=>(hb2.alloc o).cell 2;simp at d0 d2 d2a;have HB2:=AP hb2;clear hb2
 go_region_law (refine Jb rfl _ _ rfl AKj rfl (HM1.out.Aj (((AZ.refl [] W2).drew).alloc _) AV) rfl (Own.lit W2.drew 3 1 #[.int .i64 ((n+k:Nat):Int)] 1 Ar rfl).rd (ACd _ _) OH Aa ?_;intro A2 cc2 w3 hown2 Pg KF _;have hb3:=((HB2.out.drew).alloc _).Aj Pg (λhh=>HM1.out.GV HB2.out Ar g hh rfl);have x2:=hb3.cell 2;have y2:=hb3.frozen 2;simp at x2)
 all_goals
  go_wp2
  go_end0
  obtain⟨hn,hm,hs,hlx⟩:=HE.out;have hW:AZ [g] w3 (w3.setCell ⟨g,2,AB⟩ (.slice A2 (m+1) cc2)):=(AZ.refl [g] w3).setCell AV _;have hA3:=(HA1.out.Aj (((AZ.refl [] W2).drew).alloc (.cells #[.int .i64 ((n+k:Nat):Int)] 3)) AV).Aj Pg (λj hj hh=>HA1.out.own_ne HM1.out Ar j hj hh);have sz:w.heap.size<=W2.heap.size:=HC.out.size;refine⟨g::(bo A1++bo A2),rfl,⟨A1,n+k,cc1,A2,m+1,cc2,s,by simpa using hb3.FX 2 (.slice A2 (m+1) cc2),?_,?_,rfl,?_,?_,hs⟩,?_,?_⟩;simpa[Jo] using hA3.Aj hW (λj hj hh=>hA3.GV hb3 Ar j hj (by simpa using hh))
  ·rw[AFD,<- hn];have:=hown2.Aj hW (λj hj hh=>hown2.GV hb3 Ar j hj (by simpa using hh));simp only[Ey,BN,EJ,hlx];exact this
  rw[TA];omega;simp[hm]
  ·refine ((((HC.out.mono (L:=g::(bo A++bo M)) (λx hx=>.inl (by simp only[BD,Bd] at hx⊢;rcases hx with hx|hx<;>simp[hx]))).drew).alloc _).trans Pg ?_).trans hW AV;intro x hx;left;simp[hx]
  intro j hj;simp only[BD,Bd] at hj⊢;rcases hj with rfl|hj|hj;simp
  ·rcases pz j hj with h1|h1;exact .inl (.inr (.inl h1));exact .inr h1.1
  rcases KF j hj with h1|h1;exact .inl (.inr (.inr h1));right;have:=h1.1;simp at this;omega
theorem AHk(g:Nat)(L:List Nat)(base:List Int)(ws:List (List Int))(w:AL)(h:Wn w g L base ws)(hlen:base.length+ws.flatten.length<=1073741824):
  Au Ag 82 #[.pointer (AA ⟨g,0,AB⟩)] w (AKl w g L (base++ws.flatten) []):=by
 obtain⟨A,n,c,M,m,dm,s,hb,h1,h2,rfl,hn,hm,hs⟩:=h;(have n63:n<=1073741824:=by omega);have hmd:=h2.rd.2.1;have HE:=AP (show n=base.length+ws.flatten.length/\m=ws.length/\s=base.length from ⟨hn,hm,hs⟩);have HO:=AP h1;have HM:=AP h2;have HB:=AP hb;have c0:=hb.cell 0;have c1:=hb.cell 1;have c2:=hb.cell 2;have f1:=hb.frozen 1;have f2:=hb.frozen 2;simp at c0 c1 c2;clear h1 h2 hb hn hm hs;go_enter AN6,Tryz.ntmps82;go_wp2
 go_end0
 obtain⟨hn,hm,hs⟩:=HE.out;have hb2:=(HB.out.FX 1 (.int .i64 n)).FX 2 (.slice M 0 dm);have hch:AZ [g] w ((w.setCell ⟨g,1,AB⟩ (.int .i64 n)).setCell ⟨g,2,AB⟩ (.slice M 0 dm)):=((AZ.refl [g] w).setCell AV _).setCell AV _;refine⟨g::(bo A++bo M),rfl,⟨A,n,c,M,0,dm,n,by simpa using hb2,?_,?_,rfl,?_,rfl,?_⟩,hch.mono AV,λk hk=>.inl hk⟩;simpa using HO.out.Aj hch (λj hj hh=>HO.out.GV HB.out Ar j hj (by simpa using hh))
 ·have:=(HM.out.Aj hch (λj hj hh=>HM.out.GV HB.out Ar j hj (by simpa using hh))).cut (Dn _);simp only[mZ,List.take_zero] at this;exact this
 simpa using hn;rw[hn,Gz]
theorem AHl(g:Nat)(L:List Nat)(base:List Int)(ws:List (List Int))(w:AL)(h:Wn w g L base ws)(hlen:base.length+ws.flatten.length<=1073741824)(N0:Nat)(hN0:(base++ws.flatten).length=N0):
  Au Ag 63 #[.pointer (AA ⟨g,0,AB⟩)] w (Lu 5 1 w (bv (base++ws.flatten)) N0):=by
 subst hN0;obtain⟨A,n,c,M,m,dm,s,hb,h1,h2,rfl,hn,hm,hs⟩:=h;(have n63:n<=1073741824:=by omega);have HE:=AP (show n=(base++ws.flatten).length by rw[Gz];omega);have HO:=AP h1;have c0:=hb.cell 0;simp at c0;clear h1 h2 hb hn hm hs;have k78:= @AKQ;go_enter ANy,Tryz.ntmps63;(go_wp2_with (go_at_call 78;refine (clone_any A n c _ _ n63 HO.out.rd).mono ?_;rintro e w1 ⟨A1,c1,rfl,hown,EX,hnew⟩));go_ret;rw[<- HE.out];exact⟨A1,c1,rfl,hown,EX,hnew⟩
theorem AHm(g:Nat)(L:List Nat)(base:List Int)(ws:List (List Int))(w:AL)(h:Wn w g L base ws)(hlen:base.length+ws.flatten.length<=1073741824)(N0:Nat)(hN0:base.length=N0):
  Au Ag 90 #[.pointer (AA ⟨g,0,AB⟩)] w (Lu 5 1 w (bv base) N0):=by
 subst hN0;obtain⟨A,n,c,M,m,dm,s,hb,h1,h2,rfl,hn,hm,hs⟩:=h;(have n63:n<=1073741824:=by omega);(have s63:s<=1073741824:=by omega);(have hsn:s<=n:=by omega);have hnc:=h1.rd.2.1
 have hcut:Rd w 1 A s c (bv base):=by
  have:=h1.rd.take hsn;rw[OT] at this;rw[show bv base=(bv (base++ws.flatten)).take s by rw[hs];simp];exact this
 have HC:=AP hcut;have HE:=AP (show s=base.length from hs);have c0:=hb.cell 0;have c1:=hb.cell 1;simp at c0 c1;(have q0:(0:Int)<=s:=by omega);(have q1:(s:Int)<=c:=by omega);clear h1 h2 hb hn hm hs hcut;have k78:= @AKQ;go_enter AOD,Tryz.ntmps90;go_wp2
 go_still_tail 9,Aq
 (go_wp2_with (go_at_call 78;refine (clone_any A s c _ _ s63 (HC.out.Aj ((AZ.refl [] w).drew) AV)).mono ?_;rintro e w1 ⟨A1,c1,rfl,hown,EX,hnew⟩));go_ret;rw[<- HE.out];exact⟨A1,c1,rfl,hown,((AZ.refl [] w).drew).Ah EX,hnew⟩
theorem size_any(g:Nat)(L:List Nat)(base:List Int)(ws:List (List Int))(w:AL)(h:Wn w g L base ws)(N0:Nat)(hN0:base.length+ws.flatten.length=N0):
  Au Ag 181 #[.pointer (AA ⟨g,0,AB⟩)] w (λe w'=>e=.returned (.int .i64 (N0:Nat))/\w'=w):=by
 subst hN0;obtain⟨A,n,c,M,m,dm,s,hb,h1,h2,rfl,hn,hm,hs⟩:=h;have HE:=AP hn;have c0:=hb.cell 0;simp at c0;clear h1 h2 hb hn hm hs;go_enter AKG,Tryz.ntmps181;go_wp2;go_ret;exact⟨by rw[<- HE.out];rfl,rfl⟩
def Ph (out:List Int) (start:Nat):List (List Int)->List Bool->List Int
 | [],_=>out|x::r,ks=>Ph (if ks.headD false then out++MN (start - out.length) 0++x else out) (start+x.length) r ks.tail
theorem gW(out:List Int)(start:Nat)(ws:List (List Int))(x:List Int)(ks:List Bool):
  Ph out start (ws++[x]) ks=if ks[ws.length]?.getD false then Ph out start ws ks++MN (start+ws.flatten.length - (Ph out start ws ks).length) 0++x else Ph out start ws ks:=by
 induction ws generalizing out start ks with
 |nil=>cases ks<;>simp[Ph]|cons y r ih=>
  simp only[Dp,Ph,ih]
  cases ks with|nil=>simp|cons k ks=>simp[VM]
theorem AGY(out:List Int)(start:Nat)(ws:List (List Int))(ks:List Bool)(h:out.length<=start):(Ph out start ws ks).length<=start+ws.flatten.length:=by
 induction ws generalizing out start ks with
 |nil=>simpa[Ph] using h|cons y r ih=>
  simp only[Ph,JS,Gz]
  have:(if ks.headD false then out++MN (start - out.length) 0++y else out).length<=start+y.length:=by
   split;simp;omega;omega
  have:=ih _ _ ks.tail this;omega
theorem AMs(base:List Int)(ws:List (List Int))(i:Nat)(x:List Int)(h:ws[i]? =AA x):((base++ws.flatten).drop (base.length+(ws.take i).flatten.length)).take x.length=x:=by
 have hi:i<ws.length:=(CP.1 h).1
 have e:ws=ws.take i++x::ws.drop (i+1):=by
  conv=>lhs;rw[<- YK i ws,YI hi]
  rw[(CP.1 h).2]
 have e2:base++ws.flatten=(base++(ws.take i).flatten)++(x++(ws.drop (i+1)).flatten):=by
  conv=>lhs;rw[e]
  simp
 rw[e2,List.drop_left' AV,yZ rfl]
abbrev kv (ks:List Bool):List AQ:=ks.map Value.bool
theorem ACe{ks:List Bool}(h:Rd w 1 A n c (kv ks))(hj:j<n):
  ∃ad x,A=AA ad/\ks[j]? =AA x/\w.cell? (ad.add j)=AA (.bool x):=by
 obtain⟨ad,u,h1,h2,h3⟩:=h.gU hj;rw[Bg] at h2
 cases hz:ks[j]? with|none=>rw[hz] at h2;cases h2|some x=>rw[hz] at h2;simp at h2;subst h2;exact⟨ad,x,h1,rfl,h3⟩
theorem AFE(g:Nat)(L:List Nat)(base:List Int)(ws:List (List Int))(K:Option Af)(kn kc:Nat)(ks:List Bool)(w:AL)(h:Wn w g L base ws)(hlen:base.length+ws.flatten.length<=1073741824)
  (hwl:ws.length<=1073741824) (hkn:kn<=1073741824) (hkd:Rd w 1 K kn kc (kv ks)) (N0:Nat) (hN0:(Ph base base.length ws ks).length=N0):
  Au Ag 57 #[.pointer (AA ⟨g,0,AB⟩),.slice K kn kc] w (Lu 5 1 w (bv (Ph base base.length ws ks)) N0):=by
 subst hN0;have HS:=AP h;obtain⟨A,n,c,M,m,dm,s,hb,h1,h2,rfl,hn,hm,hs⟩:=h;(have n63:n<=1073741824:=by omega);(have m63:m<=1073741824:=by omega);(have hkl:ks.length=kn:=by have:=hkd.1;simp at this;omega);have HE:=AP (show n=base.length+ws.flatten.length/\m=ws.length/\s=base.length/\ks.length=kn from ⟨hn,hm,hs,hkl⟩);have HO:=AP h1;have HM:=AP h2;have HB:=AP hb;have HK:=AP hkd;have HL:=AP hlen;clear h1 h2 hb hn hm hs hkd hkl hlen hwl;have k90:= @ATX;go_enter ANu,Tryz.ntmps57;(go_wp2_with (go_at_call 90;refine (AHm g _ base ws _ HS.out HL.out base.length rfl).mono ?_;rintro e w1 ⟨A1,c1,rfl,hown,EX,hnew⟩;have hb1:=HB.out.Aj EX AV;have c0:=hb1.cell 0;have c1':=hb1.cell 1;have c2:=hb1.cell 2;simp at c0 c1' c2));obtain⟨hn,hm,hs,hkl⟩:=HE.out;have hown':Own w1 5 1 A1 base.length c1 (bv base):=hown;clear hown c0 c1' c2
 go_loopw [5,6,20] (λo f q wr=>∃(i F N':Nat) (A':Option Af) (c':Nat),i<=m/\o=.slice A' N' c'/\f=.int .i64 F/\q=.int .i64 i/\F=base.length+(ws.take i).flatten.length/\N'=(Ph base base.length (ws.take i) ks).length/\
  Own wr 5 1 A' N' c' (bv (Ph base base.length (ws.take i) ks))/\AZ [] w wr/\(∀k∈bo A',w.heap.size<=k)) (λ_ _ q _=>m - (intOf q).toNat)
 case atStart=>exact⟨0,s,_,A1,c1,Dn _,rfl,rfl,rfl,by simp[hs],by simp[Ph],by simpa[Ph] using hown',EX,hnew⟩
 obtain⟨i,F,N',A',c',hi,rfl,rfl,rfl,hF,hN,hown,EX,hnew⟩:=hrel;have HF:=AP hF;have HN:=AP hN;have HW:=AP hnew;have HG:=AP hkl;have HNM:=AP (show n=base.length+ws.flatten.length/\m=ws.length/\s=base.length from ⟨hn,hm,hs⟩);have hb1:=HB.out.Aj EX AV;have c0:=hb1.cell 0;simp at c0;by_cases hlt:i<m
 ·obtain⟨x,hx⟩: ∃x,ws[i]? =AA x:=⟨_,CB Aa⟩;have hend:=AKk base.length ws i x hx;have hle:=AGY base base.length (ws.take i) ks (Bc _);have hts:=take_snoc ws i x hx;have hfl:(ws.take (i+1)).flatten.length=(ws.take i).flatten.length+x.length:=by rw[hts,TA]
  have htot:(ws.take (i+1)).flatten.length<=ws.flatten.length:=by
   conv=>rhs;rw[<- YK (i+1) ws,lC,Gz]
   omega
  obtain⟨E,hE⟩: ∃E,E=base.length+(ws.take i).flatten.length+x.length:=⟨_,rfl⟩;rw[<- hE] at hend;obtain⟨ad,u,rfl,hu,hcu⟩:=pg ((HM.out.rd).Aj EX AV) hlt;rw[hend] at hu;simp at hu;subst hu;(have q1:F<=E:=by omega);(have q2:E<=n:=by have:=HL.out;omega);(have q3:N'<=F:=by omega);have q4:=HO.out.rd.2.1;obtain⟨S,hsl,hrs,hbs⟩:=ACX Rz (HO.out.rd) (show F<=E by omega) q2
  have AOc:Rd w 1 S (E - F) (c - F) (bv x):=by
   rw[OT,OT,show E - F=x.length by omega,hF,<- List.map_drop,<- OU,AMs base ws i x hx] at hrs;rw[show E - F=x.length by omega,hF];exact hrs
  have wZ:=AOc.Aj EX AV;have AOd:=HO.out.lt;(have hdis: ∀k∈bo S,k∉bo A':=λk hk hk'=>by have h1:=AOd k (hbs k hk);have h2:=hnew k hk';omega);(have hga:g∉bo A':=λhh=>by have h1:=HB.out.lt;have h2:=hnew g hh;omega);have HRS:=AP wZ;have ZE:=AP hdis;have HGA:=AP hga;have Zt:=AP hbs;have HQ:=AP (show F=base.length+(ws.take i).flatten.length/\E=F+x.length from ⟨hF,Aa⟩);have HX:=AP hx;clear hrs AOc wZ AOd hdis hga hbs hF hN hnew hkl hn hm hs hx hend hle hts hfl htot hE;by_cases hki:i<kn
  ·obtain⟨kd,b,rfl,hkb,hck⟩:=ACe (HK.out.Aj EX AV) hki;have HKB:=AP hkb;clear hkb
   cases b with
   |true=>
    have q5:F - N'<=1073741824:=by omega
    go_wp2_with (first
     |(at_builtin;refine dC rfl _ _ rfl Rz VU3 rfl rfl rfl hown (F - N') (by show Kw .i64 _=_;congr 1;omega) OH Aa ?_;intro A2 c2 w2 hown2 Pg KF;have hb2:=hb1.Aj Pg HGA.out;have d0:=hb2.cell 0;simp at d0;rw[show N'+(F - N')=F by omega] at hown2)
     |(at_builtin;go_must (refine EW rfl _ _ rfl Rz rfl hown2 rfl (HRS.out.Aj Pg ZE.out) (AAQ x) OH Aa ?_);intro A3 c3 w3 hown3 ARu ARv _))
    go_roundw
    case rel=>
     obtain⟨hF,hE⟩:=HQ.out
     have haft:Ph base base.length (ws.take (i+1)) ks=Ph base base.length (ws.take i) ks++MN (F - N') 0++x:=by
      rw[take_snoc ws i x HX.out,gW,Ht,Jm (Tj (CP.1 HX.out).1),HKB.out,HN.out,hF];rfl
     refine⟨i+1,E,E,A3,c3,Aa,by first|rfl|(congr 1;omega),rfl,by go_num,?_,?_,?_,?_,?_⟩;rw[take_snoc ws i x HX.out,TA];omega;rw[haft];simp[<- HN.out];omega
     ·rw[haft];rw[show F+(E - F)=E by omega] at hown3;simpa[Jo] using hown3
     ·exact (EX.trans Pg (λy hy=>.inr (HW.out y hy))).trans ARu (λy hy=>by
       rcases KF y hy with h1|h1;exact .inr (HW.out y h1)
       right;have:=EX.size;omega)
     intro y hy;have:=EX.size;have h2:=Pg.size;rcases ARv y hy with h1|h1
     ·rcases KF y h1 with h1|h1;exact HW.out y h1;omega
     omega
    simp[intOf];omega
   |false=>
    go_wp2;go_roundw
    case rel=>
     obtain⟨hF,hE⟩:=HQ.out
     have haft:Ph base base.length (ws.take (i+1)) ks=Ph base base.length (ws.take i) ks:=by
      rw[take_snoc ws i x HX.out,gW,Ht,Jm (Tj (CP.1 HX.out).1),HKB.out];rfl
     exact⟨i+1,E,N',A',c',Aa,rfl,rfl,by go_num,by rw[take_snoc ws i x HX.out,TA];omega,by rw[haft];exact HN.out,by rw[haft];exact hown,EX,HW.out⟩
    simp[intOf];omega
  have hkb:ks[i]? =AB:=IG (by rw[HG.out];omega);have HKB:=AP hkb;clear hkb;go_wp2;go_roundw
  case rel=>
   obtain⟨hF,hE⟩:=HQ.out
   have haft:Ph base base.length (ws.take (i+1)) ks=Ph base base.length (ws.take i) ks:=by
    rw[take_snoc ws i x HX.out,gW,Ht,Jm (Tj (CP.1 HX.out).1),HKB.out];rfl
   exact⟨i+1,E,N',A',c',Aa,rfl,rfl,by go_num,by rw[take_snoc ws i x HX.out,TA];omega,by rw[haft];exact HN.out,by rw[haft];exact hown,EX,HW.out⟩
  simp[intOf];omega
 go_wp2;go_ret;have him:ws.take i=ws:=Ep Aa;have hown5:=hown;rw[him] at hown5;have hN5:=HN.out;rw[him] at hN5;rw[<- hN5];exact⟨A',c',rfl,hown5,EX,HW.out⟩
end
section
variable {a b:ByteArray}{c c' n:Nat}{A A':Option Af}{w w':AL}
section
variable {κ α:Type} [DecidableEq κ]
def without (t:List (κ×α)) (k:κ):List (κ×α):=t.filter λp=>decide (p.1≠k)
theorem JJ{t:List (κ×α)}{k:κ}(h:k∉t.map Ac):without t k=t:=by
 unfold without;rw[lD];intro p hp;simp only[decide_eq_true_eq];intro e;exact h (Bv.2 ⟨p,hp,e⟩)
theorem Ed(p:κ×α)(t:List (κ×α))(k:κ):without (p::t) k=if p.1=k then without t k else p::without t k:=by
 unfold without;rw[XC];by_cases h:p.1=k<;>simp[h]
theorem Zu(p:κ×α)(t:List (κ×α))(k:κ):JC (p::t) k=if p.1=k then t else p::JC t k:=by
 unfold JC;rw[BN,RN];by_cases h:p.1=k;simp[h];(have hb:(p.1==k)=false:=by simp[h]);rw[BM h];simp only[hb];cases (t.map Ac).idxOf? k<;>simp
theorem NK{t:List (κ×α)}(hn:(t.map Ac).Nodup)(k:κ):JC t k=without t k:=by
 induction t with
 |nil=>rfl|cons p r ih=>
  rw[BN,II] at hn;rw[Zu,Ed];by_cases h:p.1=k;rw[BZ h,BZ h,JJ (by rw[<- h];exact hn.1)];rw[BM h,BM h,ih hn.2]
theorem Vm(p:κ×α)(t:List (κ×α))(k:κ)(v:α):Dq (p::t) k v=if p.1=k then (k,v)::t else p::Dq t k v:=by
 unfold Dq;rw[BN,RN];by_cases h:p.1=k;simp[h];(have hb:(p.1==k)=false:=by simp[h]);rw[BM h];simp only[hb];cases (t.map Ac).idxOf? k<;>simp
theorem Vo{t:List (κ×α)}(hn:(t.map Ac).Nodup)(k:κ)(v:α):(Dq t k v).Perm ((k,v)::without t k):=by
 induction t with
 |nil=>exact OV _|cons p r ih=>
  rw[BN,II] at hn;rw[Vm,Ed];by_cases h:p.1=k;rw[BZ h,BZ h,JJ (by rw[<- h];exact hn.1)];rw[BM h,BM h];exact ((ih hn.2).cons p).trans (List.Perm.swap _ _ _)
end
def Jg (a b:ByteArray):Bool:=Op.bytesLess a.toList b.toList
theorem TB:Jg a b=true↔a.data.toList<b.data.toList:=by
 unfold Jg;rw[Go.Proofs.bytesLess_eq,Y0,Y0];simp
theorem data_inj(h:a.data.toList=b.data.toList):a=b:=by
 cases a with|mk x=>cases b with|mk y=>
  (cases x;cases y);simp at h;subst h;rfl
theorem Pj{c:ByteArray}(h:Jg a b=true)(k:Jg b c=true):Jg a c=true:=by
 rw[TB] at*
 exact List.lt_trans h k
theorem LW(a:ByteArray):Jg a a=false:=by
 rw[<- fD,TB];exact yc _
theorem lV(h:a≠b)(k:Jg a b=false):Jg b a=true:=by
 rw[<- fD,TB] at k;rw[TB];have h1:b.data.toList<=a.data.toList:=List.not_lt.1 k;rcases AFt.1 h1 with h2|h2;exact h2;exact Ak (data_inj h2).symm h
section
variable {α:Type}
def Dh (k:ByteArray) (v:α):List (ByteArray×α)->List (ByteArray×α)
 | []=>[(k,v)]|p::r=>if Jg k p.1=true then (k,v)::p::r else p::Dh k v r
theorem Hm(k:ByteArray)(v:α): ∀t:List (ByteArray×α),(Dh k v t).Perm ((k,v)::t)
 | []=>OV _
 |p::r=>by
  rw[Dh];split;exact OV _;exact ((Hm k v r).cons p).trans (List.Perm.swap _ _ _)
def OI (t:List (ByteArray×α)):Prop:=(t.map Ac).Pairwise λa b=>Jg a b=true
theorem OI.nodup{t:List (ByteArray×α)}(h:OI t):(t.map Ac).Nodup:=
 List.Pairwise.imp (λ{a b} hab e=>by subst e;rw[LW] at hab;cases hab) h
theorem OI.without{t:List (ByteArray×α)}(h:OI t)(k:ByteArray):OI (without t k):=
 AFu ((List.filter_sublist).map Ac) h
theorem OI.with_{t:List (ByteArray×α)}(h:OI t){k:ByteArray}(v:α)(hk:k∉t.map Ac):OI (Dh k v t):=by
 induction t with
 |nil=>simp[OI,Dh]|cons p r ih=>
  have hp: ∀x∈r.map Ac,Jg p.1 x=true:=(KL.1 h).1;have hr:OI r:=(KL.1 h).2;rw[Dh];split
  ·rename_i hlt;refine KL.2 ⟨λx hx=>?_,h⟩;rcases BD.1 hx with rfl|hx;exact hlt;exact Pj hlt (hp x hx)
  rename_i hlt;rw[fD] at hlt;have hne:k≠p.1:=λe=>hk (by simp[e]);refine KL.2 ⟨λx hx=>?_,ih hr (λhm=>hk (CO _ hm))⟩;have hx2:x∈((k,v)::r).map Ac:=((Hm k v r).map Ac).mem_iff.1 hx;rcases BD.1 hx2 with rfl|hx2;exact lV hne hlt;exact hp x hx2
end
structure Ir where
 nm:ByteArray
 A:Option Af
 n:Nat
 c:Nat
def Ir.cells (x:Ir):List AQ:=[.string x.nm,.slice x.A x.n x.c]
def Ho (xs:List Ir):List AQ:=xs.flatMap Ir.cells
theorem jT(xs:List Ir):(Ho xs).length=xs.length*2:=by
 induction xs with|nil=>rfl|cons x r ih=>simp only[Ho,Tm,Gz,EU] at ih⊢;rw[ih];simp[Ir.cells];omega
theorem OB(a b:List Ir):Ho (a++b)=Ho a++Ho b:=by simp[Ho]
theorem Qh(xs:List Ir)(j k:Nat)(hk:k<2):(Ho xs)[j*2+k]? =(xs[j]?).bind λx=>x.cells[k]? :=by
 induction xs generalizing j with
 |nil=>simp[Ho]|cons x r ih=>
  simp only[Ho,Tm]
  cases j with
  |zero=>
   rw[Nb (by simp[Ir.cells];omega)];simp
  |succ j=>
   rw[Gy (by simp[Ir.cells];omega)];(have:(j+1)*2+k - x.cells.length=j*2+k:=by simp[Ir.cells];omega);rw[this];simpa[Ho] using ih j
theorem VC(xs:List Ir): ∀u∈Ho xs,u.oneCell'=true:=by
 intro u hu;obtain⟨x,_,h⟩:=Es.1 hu;simp only[Ir.cells,BD,lF,or_false] at h;rcases h with rfl|rfl<;>rfl
theorem ACf(xs:List Ir)(j k:Nat)(hk:k<2)(x x':Ir)(v:AQ)(hj:xs[j]? =AA x)(h:x'.cells=x.cells.set k v):(Ho xs).set (j*2+k) v=Ho (xs.set j x'):=by
 induction xs generalizing j with
 |nil=>simp at hj|cons y r ih=>
  simp only[Ho,Tm]
  cases j with
  |zero=>
   simp at hj;subst hj;rw[List.set_append_left _ _ (by simp[Ir.cells];omega)];simp[h]
  |succ j=>
   rw[List.set_append_right _ _ (by simp[Ir.cells];omega)];(have:(j+1)*2+k - y.cells.length=j*2+k:=by simp[Ir.cells];omega);rw[this];have:=ih j (by simpa using hj);simp only[Ho] at this;simp[this]
structure AGZ (w:AL) (p:Af) (x:Ir):Prop where
 c0:w.cell? p=AA (.string x.nm)
 c1:w.cell? ⟨p.block,p.off+1,AB⟩=AA (.slice x.A x.n x.c)
theorem AGZ.Aj{p:Af}{x:Ir}{L:List Nat}(h:AGZ w p x)(hc:AZ L w w')(hn:p.block∉L):AGZ w' p x:=⟨hc.cell h.c0 hn,hc.cell h.c1 hn⟩
theorem Rd.MV{xs:List Ir}(h:Rd w 2 A n c (Ho xs)):xs.length=n:=by have:=h.1;rw[jT] at this;omega
theorem Rd.ns{xs:List Ir}(h:Rd w 2 A n c (Ho xs)){j:Nat}{x:Ir}(hj:xs[j]? =AA x): ∃ad,A=AA ad/\AGZ w (ad.add (j*2)) x:=by
 have hl:=h.MV;(have hjn:j<n:=by have:=(CP.1 hj).1;omega);obtain⟨ad,rfl,_⟩:=h.some_ Aa;refine⟨ad,rfl,?_⟩;have hc: ∀k,k<2->∀u,x.cells[k]? =AA u->w.cell? (ad.add (j*2+k))=AA u:=λk hk u hu=>(h.2.2.2.2 ad rfl).2 _ u (by rw[Qh _ _ _ hk,hj];exact hu);refine⟨hc 0 Ar _ rfl,?_⟩;have:=hc 1 Ar _ rfl;rw[pX] at this;exact this
abbrev FM:=Ir×List Int
abbrev DM:=Ir×List FM
abbrev FI:=List (ByteArray×List (ByteArray×List Int))
def EZ (fs:List FM):List Ir:=fs.map (·.1)
def EP (ds:List DM):List Ir:=ds.map (·.1)
def BB (fs:List FM):List (ByteArray×List Int):=fs.map λf=>(f.1.nm,f.2)
def BF (ds:List DM):FI:=ds.map λd=>(d.1.nm,BB d.2)
def Gg (fs:List FM):List Nat:=fs.flatMap λf=>bo f.1.A
def Ou (ds:List DM):List Nat:=ds.flatMap λd=>bo d.1.A++Gg d.2
structure ER (w:AL) (A:Option Af) (n c:Nat) (fs:List FM):Prop where
 row:Rd w 2 A n c (Ho (EZ fs))
 dat: ∀f∈fs,Rd w 1 f.1.A f.1.n f.1.c (bv f.2)
structure FY (w:AL) (A:Option Af) (n c:Nat) (ds:List DM):Prop where
 row:Rd w 2 A n c (Ho (EP ds))
 Eb: ∀d∈ds,ER w d.1.A d.1.n d.1.c d.2
theorem ER.Aj{w w':AL}{A:Option Af}{n c:Nat}{fs:List FM}{L:List Nat}(h:ER w A n c fs)(hc:AZ L w w')(hn: ∀k∈bo A++Gg fs,k∉L):ER w' A n c fs:=
 ⟨h.row.Aj hc (λk hk=>hn k (F7 _ hk)),λf hf=>(h.dat f hf).Aj hc (λk hk=>hn k (Hg _ (Es.2 ⟨f,hf,hk⟩)))⟩
theorem FY.Aj{w w':AL}{A:Option Af}{n c:Nat}{ds:List DM}{L:List Nat}(h:FY w A n c ds)(hc:AZ L w w')(hn: ∀k∈bo A++Ou ds,k∉L):FY w' A n c ds:=
 ⟨h.row.Aj hc (λk hk=>hn k (F7 _ hk)),λd hd=>(h.Eb d hd).Aj hc (λk hk=>hn k (Hg _ (Es.2 ⟨d,hd,hk⟩)))⟩
theorem FY.GH{ds:List DM}(h:FY w A n c ds)(hc:AZ [] w w'):FY w' A n c ds:=h.Aj hc Ew
theorem ER.GH{fs:List FM}(h:ER w A n c fs)(hc:AZ [] w w'):ER w' A n c fs:=h.Aj hc Ew
structure G8 (w:AL) (A:Option Af) (n c:Nat) (fs:List FM):Prop where
 row:Own w 64 2 A n c (Ho (EZ fs))
 dat: ∀f∈fs,Own w 5 1 f.1.A f.1.n f.1.c (bv f.2)
 sep:(Gg fs).Nodup
structure Jt (w:AL) (A:Option Af) (n c:Nat) (ds:List DM):Prop where
 row:Own w 77 2 A n c (Ho (EP ds))
 Eb: ∀d∈ds,G8 w d.1.A d.1.n d.1.c d.2
 sep:(Ou ds).Nodup
theorem G8.rd{w:AL}{A:Option Af}{n c:Nat}{fs:List FM}(h:G8 w A n c fs):ER w A n c fs:=⟨h.row.rd,λf hf=>(h.dat f hf).rd⟩
theorem Jt.rd{w:AL}{A:Option Af}{n c:Nat}{ds:List DM}(h:Jt w A n c ds):FY w A n c ds:=⟨h.row.rd,λd hd=>(h.Eb d hd).rd⟩
theorem G8.Aj{w w':AL}{A:Option Af}{n c:Nat}{fs:List FM}{L:List Nat}(h:G8 w A n c fs)(hc:AZ L w w')(hn: ∀k∈bo A++Gg fs,k∉L):G8 w' A n c fs:=
 ⟨h.row.Aj hc (λk hk=>hn k (F7 _ hk)),λf hf=>(h.dat f hf).Aj hc (λk hk=>hn k (Hg _ (Es.2 ⟨f,hf,hk⟩))),h.sep⟩
theorem Jt.Aj{w w':AL}{A:Option Af}{n c:Nat}{ds:List DM}{L:List Nat}(h:Jt w A n c ds)(hc:AZ L w w')(hn: ∀k∈bo A++Ou ds,k∉L):Jt w' A n c ds:=
 ⟨h.row.Aj hc (λk hk=>hn k (F7 _ hk)),λd hd=>(h.Eb d hd).Aj hc (λk hk=>hn k (Hg _ (Es.2 ⟨d,hd,hk⟩))),h.sep⟩
theorem G8.lt{w:AL}{A:Option Af}{n c:Nat}{fs:List FM}(h:G8 w A n c fs): ∀k∈bo A++Gg fs,k<w.heap.size:=by
 intro k hk;rcases Bd.1 hk with hk|hk;exact h.row.lt k hk;obtain⟨f,hf,hk⟩:=Es.1 hk;exact (h.dat f hf).lt k hk
theorem Jt.lt{w:AL}{A:Option Af}{n c:Nat}{ds:List DM}(h:Jt w A n c ds): ∀k∈bo A++Ou ds,k<w.heap.size:=by
 intro k hk;rcases Bd.1 hk with hk|hk;exact h.row.lt k hk;obtain⟨d,hd,hk⟩:=Es.1 hk;exact (h.Eb d hd).lt k hk
theorem wo:Ety Ag 25 64 2 40 (.agg #[.string MM,.slice AB 0 0]):=.mk' ATi Aq rfl Ar
theorem Qi:Ety Ag 22 77 2 40 (.agg #[.string MM,.slice AB 0 0]):=.mk' ATh Aq rfl Ar
theorem gX(A:Option Af):(bo A).Nodup:=by cases A<;>simp
theorem G8.snoc{fs:List FM}(h:G8 w A n c fs){x:FM}(hc:AZ (bo A) w w')(hr:Own w' 64 2 A' (n+1) c' (Ho (EZ (fs++[x]))))(hx:Own w' 5 1 x.1.A x.1.n x.1.c (bv x.2))(hd: ∀k∈bo x.1.A,k∉Gg fs):G8 w' A' (n+1) c' (fs++[x]):=by
 refine⟨hr,λf hf=>?_,?_⟩
 ·rcases Bd.1 hf with hf|hf;exact (h.dat f hf).Aj hc ((h.dat f hf).own_ne h.row Ar);simp only[CJ] at hf;subst hf;exact hx
 unfold Gg;rw[AFv];refine QD.2 ⟨h.sep,by simpa using gX x.1.A,λa ha b hb=>?_⟩;simp only[Tm,List.flatMap_nil,I9] at hb;rintro rfl;exact hd a hb ha
theorem qA(fs:List FM)(x:FM):Gg (fs++[x])=Gg fs++bo x.1.A:=by simp[Gg]
theorem Zv(ds:List DM)(x:DM):Ou (ds++[x])=Ou ds++(bo x.1.A++Gg x.2):=by simp[Ou]
theorem G8.nodup{fs:List FM}(h:G8 w A n c fs):(bo A++Gg fs).Nodup:=by
 refine QD.2 ⟨gX A,h.sep,λa ha b hb=>?_⟩;obtain⟨f,hf,hb⟩:=Es.1 hb;rintro rfl;exact (h.dat f hf).own_ne h.row Ar a hb ha
theorem Jt.AMt{ds:List DM}(h:Jt w A n c ds): ∀k∈Ou ds,k∉bo A:=by
 intro k hk;obtain⟨d,hd,hk⟩:=Es.1 hk;rcases Bd.1 hk with hk|hk;exact (h.Eb d hd).row.own_ne h.row Ar k hk;obtain⟨f,hf,hk⟩:=Es.1 hk;exact ((h.Eb d hd).dat f hf).own_ne h.row Ar k hk
theorem Jt.snoc{ds:List DM}(h:Jt w A n c ds){x:DM}(hc:AZ (bo A) w w')(hr:Own w' 77 2 A' (n+1) c' (Ho (EP (ds++[x]))))(hx:G8 w' x.1.A x.1.n x.1.c x.2)(hd: ∀k∈bo x.1.A++Gg x.2,k∉Ou ds):Jt w' A' (n+1) c' (ds++[x]):=by
 refine⟨hr,λd hd=>?_,?_⟩
 ·rcases Bd.1 hd with hd|hd;exact (h.Eb d hd).Aj hc (λk hk=>h.AMt k (Es.2 ⟨d,hd,hk⟩));simp only[CJ] at hd;subst hd;exact hx
 rw[Zv];exact QD.2 ⟨h.sep,hx.nodup,λa ha b hb=>by rintro rfl;exact hd a hb ha⟩
def dD (w:AL) (D:FI) (e:FT) (w':AL):Prop:=
 ∃A n c ds,e=.returned (.slice A n c)/\Jt w' A n c ds/\BF ds=D/\AZ [] w w'/\∀k∈bo A++Ou ds,w.heap.size<=k
end
open Go
section
variable {a a':Act}{fuel:Nat}{oi:BU}{v:AQ}{w:AL}{C:AL->Prop}
section
variable {P:BL} {ops:Array BU} {Q:Exit->Act->AL->Prop} {md:Region.Mode} {S:AL->Prop}
theorem tk(i:Nat){listed:Array Bool}(h:wpAnyH P md ops Q S fuel (listed.setIfInBounds i true) a' w)(hi:ops[i]? =some oi:=by exact rfl)
  (hs:Region.noSelect ops=true:=by kernel_rfl) (hf:Region.free md ops listed i=true:=by kernel_rfl) (hr:(Region.ready md ops listed).contains i=true:=by kernel_rfl)
  (hy:YieldsIf P ops S oi v a:=by first|exact Or.inl ⟨by rfl,by intro w' hSw;go_simp;try with_reducible rfl⟩|exact Or.inr ⟨by rfl,rfl⟩) (ha:a.put oi.dst v=a':=by simp only[Act.put,Bh];first|done|rfl)
  (hQ: ∀c a w,Q (.panic c) (a.put oi.dst v) w->Q (.panic c) a w:=by first|exact λ_ _ _ h=>h|exact λ_ _ _ h=>AKm.out _ _ _ _ _ Ar h) (hS:S w:=by assumption):wpAnyH P md ops Q S (fuel+1) listed a w:=
 wpAnyH_take hi hs hf hr hQ hy hS (by rw[ha];exact h)
theorem Gh(i:Nat)(q: ∀w,S w->C w){listed:Array Bool}(h:wpAnyH P md ops Q S fuel (listed.setIfInBounds i true) a' w)(hi:ops[i]? =some oi:=by exact rfl)
  (hs:Region.noSelect ops=true:=by kernel_rfl) (hf:Region.free md ops listed i=true:=by kernel_rfl) (hr:(Region.ready md ops listed).contains i=true:=by kernel_rfl)
  (hw:Region.wanted oi (yielded ops a.tmps)=true:=by rfl)
  (hy: ∀w,S w->C w->(execOp a.eval oi).run P w=.ok (.value v) w:=by intro w' hSw q;go_simp;try with_reducible rfl) (ha:a.put oi.dst v=a':=by simp only[Act.put,Bh];first|done|rfl)
  (hQ: ∀c a w,Q (.panic c) (a.put oi.dst v) w->Q (.panic c) a w:=by first|exact λ_ _ _ h=>h|exact λ_ _ _ h=>AKm.out _ _ _ _ _ Ar h) (hS:S w:=by assumption):wpAnyH P md ops Q S (fuel+1) listed a w:=
 wpAnyH_take hi hs hf hr hQ (Or.inl ⟨hw,λw hw'=>hy w hw' (q w hw')⟩) hS (by rw[ha];exact h)
theorem ATr(i:Nat){D:World->Prop}(q: ∀w,S w->C w/\D w){listed:Array Bool}(h:wpAnyH P md ops Q S fuel (listed.setIfInBounds i true) a' w)(hi:ops[i]? =some oi:=by exact rfl)
  (hs:Region.noSelect ops=true:=by kernel_rfl) (hf:Region.free md ops listed i=true:=by kernel_rfl) (hr:(Region.ready md ops listed).contains i=true:=by kernel_rfl)
  (hw:Region.wanted oi (yielded ops a.tmps)=true:=by rfl)
  (hy: ∀w,S w->C w->D w->(execOp a.eval oi).run P w=.ok (.value v) w:=by intro w' hSw q q2;go_simp;try with_reducible rfl) (ha:a.put oi.dst v=a':=by simp only[Act.put,Bh];first|done|rfl)
  (hQ: ∀c a w,Q (.panic c) (a.put oi.dst v) w->Q (.panic c) a w:=by first|exact λ_ _ _ h=>h|exact λ_ _ _ h=>AKm.out _ _ _ _ _ Ar h) (hS:S w:=by assumption):wpAnyH P md ops Q S (fuel+1) listed a w:=
 wpAnyH_take hi hs hf hr hQ (Or.inl ⟨hw,λw hw'=>hy w hw' (q w hw').1 (q w hw').2⟩) hS (by rw[ha];exact h)
theorem Em(i:Nat){o:Oper}{listed:Array Bool}
  (h: ∀K':Act->World->Prop,Shut (∀a w,S w->(S w->wpAnyH P md ops Q S fuel (listed.setIfInBounds i true) a w)->K' a w)->if Region.wanted o (yielded ops a.tmps)=true then Oper.wp P o a w K' Q else K' (a.put o.dst undef) w)
  (ho:ops[i]? =some o:=by exact rfl) (hr:Region.ready md ops listed=[i]:=by kernel_rfl):wpAnyH P md ops Q S (fuel+1) listed a w:=
 wpAnyH_ready hr AV (AllReadyH.cons ho h AllReadyH.nil)
end
end
section
variable {c i:Nat}{u:UInt8}
def kK (c:Int):Bool:=decide (97<=c/\c<=122) || decide (48<=c/\c<=57) || c==46 || c==95 || c==45
def CV (s:ByteArray):Bool:=decide (0<s.size/\s.size<=30) && s.data.toList.all λb=>kK (b.toNat:Int)
theorem qB{s:ByteArray}(h:s.data.toList[i]? =AA u)(hb:kK (u.toNat:Int)=false):CV s=false:=by
 unfold CV;rw[AMA];right;rw[List.all_eq_false];exact⟨u,Bq h,by simp[hb]⟩
theorem wu{l:List UInt8}(h: ∀x∈l.take i,kK (x.toNat:Int)=true)(hu:l[i]? =AA u)(ho:kK (u.toNat:Int)=true): ∀x∈l.take (i+1),kK (x.toNat:Int)=true:=by
 intro x hx;rw[RQ,hu] at hx;rcases Bd.1 hx with h1|h1;exact h x h1;simp at h1;subst h1;exact ho
theorem SA(s:ByteArray)(w:AL):Au Ag 36 #[.string s] w λe w'=>e=.returned (.bool (CV s))/\w'=w:=by
 by_cases h0:s.size=0
 ·have hs:s=MM:=by
   cases s with|mk d=>simp[ByteArray.size] at h0;subst h0;rfl
  subst hs;go_enter AGW,Tryz.ntmps36;go_wp2;go_ret;exact⟨rfl,rfl⟩
 have e1:s.toList.isEmpty=false:=by
  rw[Y0,<- fD,List.isEmpty_iff];intro h;apply h0;(have q:s.data.toList.length=0:=by rw[h];rfl);simpa using q
 by_cases h30:30<s.size
 ·(have e2:decide ((30:Int)<(s.size:Int))=true:=by simp;omega);have HR:Hid (CV s=false):=AP (by unfold CV;simp;omega);go_enter AGW,Tryz.ntmps36;go_wp2;go_ret;exact⟨by rw[HR.out];rfl,rfl⟩
 (have e2:decide ((30:Int)<(s.size:Int))=false:=by simp;omega);go_enter AGW,Tryz.ntmps36;go_wp2;go_loopw [14] (λq wr=>∃i:Nat,i<=s.size/\q=.int .i64 i/\(∀x∈s.data.toList.take i,kK (x.toNat:Int)=true)/\wr=w) (λq _=>s.size - (intOf q).toNat)
 case atStart=>exact⟨0,Dn _,rfl,AV,rfl⟩
 obtain⟨i,hi,rfl,hall,rfl⟩:=hrel;have MQ:=AP hall;clear hall;by_cases hlt:i<s.size
 ·(have hlt':(i:Int)<(s.size:Int):=by omega);have HX:Hid (s.data.toList[i]? =AA (s[i]'hlt)):=AP (by rw[CB (by simpa using hlt)];rfl);have hub:(s[i]'hlt).toNat<256:=(s[i]'hlt).toNat_lt;rcases (show (97<=(s[i]'hlt).toNat/\(s[i]'hlt).toNat<=122)\/(48<=(s[i]'hlt).toNat/\(s[i]'hlt).toNat<=57)\/(s[i]'hlt).toNat=46\/(s[i]'hlt).toNat=95\/(s[i]'hlt).toNat=45\/((s[i]'hlt).toNat<48/\(s[i]'hlt).toNat≠46/\(s[i]'hlt).toNat≠45)\/(57<(s[i]'hlt).toNat/\(s[i]'hlt).toNat<97/\(s[i]'hlt).toNat≠95)\/(122<(s[i]'hlt).toNat) by omega) with hq|hq|hq|hq|hq|hq|hq|hq
  all_goals
   (first|have e0:decide (((s[i]'hlt).toNat:Int)<97)=true:=by simp;omega|have e0:decide (((s[i]'hlt).toNat:Int)<97)=false:=by simp;omega);(first|have e1:decide (122<((s[i]'hlt).toNat:Int))=true:=by simp;omega|have e1:decide (122<((s[i]'hlt).toNat:Int))=false:=by simp;omega);(first|have e2:decide (((s[i]'hlt).toNat:Int)<48)=true:=by simp;omega|have e2:decide (((s[i]'hlt).toNat:Int)<48)=false:=by simp;omega);(first|have e3:decide (57<((s[i]'hlt).toNat:Int))=true:=by simp;omega|have e3:decide (57<((s[i]'hlt).toNat:Int))=false:=by simp;omega);(first|have e4:(((s[i]'hlt).toNat:Int) !=46)=true:=by simp;omega|have e4:(((s[i]'hlt).toNat:Int) !=46)=false:=by simp;omega);(first|have e5:(((s[i]'hlt).toNat:Int) !=95)=true:=by simp;omega|have e5:(((s[i]'hlt).toNat:Int) !=95)=false:=by simp;omega);(first|have e6:(((s[i]'hlt).toNat:Int) !=45)=true:=by simp;omega|have e6:(((s[i]'hlt).toNat:Int) !=45)=false:=by simp;omega);first
   |have HO:Hid (kK ((s[i]'hlt).toNat:Int)=true):=AP (by unfold kK;simp;omega)
    go_wp2;go_roundw
    case rel=>exact⟨i+1,Aa,by go_num,wu MQ.out HX.out HO.out,Ap⟩
    simp[intOf];omega
   |have HR:Hid (CV s=false):=AP (qB HX.out (by unfold kK;simp;omega))
    go_wp2;go_ret;exact⟨by rw[HR.out];rfl,rfl⟩
 obtain rfl:i=s.size:=by omega
 have HR:Hid (CV s=true):=AP (by
  unfold CV;rw[DV];refine⟨by simp;omega,JH.2 (λx hx=>MQ.out x ?_)⟩;rw[Ep AV]
  exact hx)
 go_wp2;go_ret;exact⟨by rw[HR.out];rfl,rfl⟩
def qC:ByteArray:=⟨#[97,98,99,100,101,102,103,104,105,106,107,108,109,110,111,112,113,114,115,116,117,118,119,120,121,122,48,49,50,51,52,53,54,55,56,57,46,95,45]⟩
def jU (k:Nat) (c:Nat):Bool:=(qC.data.toList.take k).any λb=>b.toNat==c
theorem AHn:((Fv 256).all λn=>jU 39 n==kK (n:Int))=true:=by kernel_rfl
theorem AHo(h:c<256):jU 39 c=kK (c:Int):=by
 have q:=JH.1 AHn c (XA.2 h);exact eq_of_beq q
theorem AFF{k:Nat}(h:k<39):jU (k+1) c=(jU k c || (qC[k]'h).toNat==c):=by
 unfold jU;rw[RQ,show qC.data.toList[k]? =AA (qC[k]'h) from by rw[CB (show k<qC.data.toList.length from h)];rfl];simp[List.any_append]
theorem Zw(s:ByteArray)(w:AL):Au Ag 10 #[.string s] w λe w'=>e=.returned (.bool (CV s))/\AZ [] w w':=by
 by_cases h0:s.size=0
 ·(have e1:((s.size:Int)==0)=true:=by simp[h0]);have HR:Hid (CV s=false):=AP (by unfold CV;simp[h0]);go_enter AGV,Tryz.ntmps10;go_wp2;go_ret;exact⟨by rw[HR.out];rfl,AZ.refl _ _⟩
 (have e1:((s.size:Int)==0)=false:=by rw[beq_eq_false_iff_ne];omega);by_cases h30:30<s.size
 ·(have e2:decide ((30:Int)<(s.size:Int))=true:=by simp;omega);have HR:Hid (CV s=false):=AP (by unfold CV;simp;omega);go_enter AGV,Tryz.ntmps10;go_wp2;go_ret;exact⟨by rw[HR.out];rfl,AZ.refl _ _⟩
 (have e2:decide ((30:Int)<(s.size:Int))=false:=by simp;omega);go_enter AGV,Tryz.ntmps10;go_wp2;go_loopw [3] (λq wr=>∃i:Nat,i<=s.size/\q=.int .i64 i/\(∀x∈s.data.toList.take i,kK (x.toNat:Int)=true)/\AZ [] w wr) (λq _=>s.size - (intOf q).toNat)
 case atStart=>exact⟨0,Dn _,rfl,AV,AZ.refl _ _⟩
 obtain⟨i,hi,rfl,hall,hch⟩:=hrel;have MQ:=AP hall;have DX:=AP hch;clear hall hch;by_cases hlt:i<s.size
 ·(have hlt':(i:Int)<(s.size:Int):=by omega);have HX:Hid (s.data.toList[i]? =AA (s[i]'hlt)):=AP (by rw[CB (by simpa using hlt)];rfl);have hub:(s[i]'hlt).toNat<256:=(s[i]'hlt).toNat_lt;go_wp2;obtain⟨wk,hwk⟩: ∃wk:AL,wk=wr:=⟨_,rfl⟩;subst hwk;go_loopw [5,4] (λq b wr=>∃k:Nat,k<=39/\q=.int .i64 k/\b=.bool (jU k (s[i]'hlt).toNat)/\AZ [] wk wr) (λq _ _=>39 - (intOf q).toNat)
  case atStart=>exact⟨0,Aa,rfl,rfl,AZ.refl _ _⟩
  obtain⟨k,hk,rfl,rfl,hcr⟩:=hrel;have HCR:=AP hcr;clear hcr;by_cases ATs:k<39
  ·(have AUq:(k:Int)<39:=by omega);have HS:=AP (AFF (c:=(s[i]'hlt).toNat) ATs)
   cases hb:jU k (s[i]'hlt).toNat with
   |true=>
    rw[hb] at HS;clear hb;(go_wp2_with fail);go_quiet (fail);go_wp2;go_roundw
    case rel=>exact⟨k+1,Aa,by go_num,by rw[HS.out];rfl,HCR.out.drewN _⟩
    simp[intOf];omega
   |false=>
    rw[hb] at HS;clear hb;(go_wp2_with fail);go_quiet (fail);go_wp2;go_roundw
    case rel=>
     refine⟨k+1,Aa,by go_num,?_,HCR.out.drewN _⟩;rw[HS.out,Bool.false_or];exact congrArg Value.bool (by rw[mY];simp;exact⟨λh=>by exact_mod_cast h,λh=>by exact_mod_cast h⟩)
    simp[intOf];omega
  (obtain rfl:k=39:=by omega);have HK:=AP (AHo hub)
  cases hb:jU 39 (s[i]'hlt).toNat with
  |true=>
   rw[hb] at HK;clear hb;go_wp2;go_roundw
   case rel=>exact⟨i+1,Aa,by go_num,wu MQ.out HX.out HK.out.symm,DX.out.Ah HCR.out⟩
   simp[intOf];omega
  |false=>
   rw[hb] at HK;clear hb;have HR:Hid (CV s=false):=AP (qB HX.out HK.out.symm);go_wp2;go_ret;exact⟨by rw[HR.out];rfl,DX.out.Ah HCR.out⟩
 obtain rfl:i=s.size:=by omega
 have HR:Hid (CV s=true):=AP (by
  unfold CV;rw[DV];refine⟨by simp;omega,JH.2 (λx hx=>MQ.out x ?_)⟩;rw[Ep AV]
  exact hx)
 go_wp2;go_ret;exact⟨by rw[HR.out];rfl,DX.out⟩
end
end Go.Proofs.YtkkgcebhfghdnaaGreatDoor.Vw
namespace Go.Proofs.YtkkgcebhfghdnaaGreatDoor
open Go
open Go.Shelf
def Ai.jV:Go.Shelf.Ren:=⟨fun|7=>88|10=>124|n=>n,fun|23=>112|26=>9|3=>130|28=>179|0=>0|27=>178|33=>37|4=>4|n=>n,fun|n=>n⟩
theorem Ai.AGa:Go.Proofs.SlLaysZ.n7 Ag Ai.jV:={
 mixed:=by kernel_rfl
 f7:=⟨Tryz.f88.name,Ar,AOB.trans (congrArg AA Aq)⟩
 f10:=⟨Tryz.f124.name,Ar,AJ7.trans (congrArg AA Aq)⟩
 t0:=VU0
 a0:=VI0
 z0:=VS0
 v0:=VZ0
 t4:=VU4
 a4:=VI4
 z4:=VS4
 v4:=VZ4
 t23:=I4
 a23:=AQ4
 z23:=AQ5
 v23:=AQ6
 t26:=LC
 a26:=VI9
 z26:=VS9
 v26:=VZ9
 t27:=AKc
 a27:=AKd
 z27:=AKe
 v27:=AKf
 t28:=AE8
 a28:=AE9
 z28:=AFA
 v28:=AFB
 t33:=AOX
 a33:=AOY
 z33:=AOZ
 v33:=AOa}
def Ai.jW:Go.Shelf.Ren:=⟨fun|7=>89|10=>125|n=>n,fun|23=>130|26=>9|3=>121|28=>179|0=>0|27=>178|33=>37|4=>4|n=>n,fun|n=>n⟩
theorem Ai.AGb:Go.Proofs.SlLaysZ.n7 Ag Ai.jW:={
 mixed:=by kernel_rfl
 f7:=⟨Tryz.f89.name,Ar,AOC.trans (congrArg AA Aq)⟩
 f10:=⟨Tryz.f125.name,Ar,AJ8.trans (congrArg AA Aq)⟩
 t0:=VU0
 a0:=VI0
 z0:=VS0
 v0:=VZ0
 t4:=VU4
 a4:=VI4
 z4:=VS4
 v4:=VZ4
 t23:=PY
 a23:=AKY
 z23:=AKZ
 v23:=AKa
 t26:=LC
 a26:=VI9
 z26:=VS9
 v26:=VZ9
 t27:=AKc
 a27:=AKd
 z27:=AKe
 v27:=AKf
 t28:=AE8
 a28:=AE9
 z28:=AFA
 v28:=AFB
 t33:=AOX
 a33:=AOY
 z33:=AOZ
 v33:=AOa}
def Ai.sortedA_ren:Go.Shelf.Ren:=⟨fun|6=>87|8=>122|9=>123|11=>136|13=>138|12=>137|23=>148|24=>149|14=>139|15=>140|16=>141|17=>142|18=>143|19=>144|20=>145|21=>146|22=>147|25=>150|26=>151|27=>152|28=>153|29=>154|30=>155|31=>156|n=>n,fun|26=>9|28=>179|24=>69|0=>0|3=>3|37=>214|48=>166|50=>163|4=>4|40=>243|39=>242|45=>248|5=>5|9=>9|51=>252|55=>255|57=>257|58=>258|33=>37|n=>n,fun|n=>n⟩
theorem Ai.sortedA:Go.Proofs.SlLaysZ.n6 Ag Ai.sortedA_ren:={
 mixed:=by kernel_rfl
 f6:=⟨Tryz.f87.name,Ar,AOA.trans (congrArg AA Aq)⟩
 f8:=⟨Tryz.f122.name,Ar,AQP.trans (congrArg AA Aq)⟩
 f11:=⟨Tryz.f136.name,Ar,AQQ.trans (congrArg AA Aq)⟩
 t0:=VU0
 a0:=VI0
 z0:=VS0
 v0:=VZ0
 t24:=AKT
 a24:=AKU
 z24:=AKV
 v24:=AKW
 t26:=LC
 a26:=VI9
 z26:=VS9
 v26:=VZ9
 t28:=AE8
 a28:=AE9
 z28:=AFA
 v28:=AFB
 i26:=by kernel_rfl}
def Ai.AFG:Go.Shelf.Ren:=⟨fun|6=>123|8=>138|9=>137|19=>148|20=>149|21=>139|22=>140|23=>141|24=>142|25=>143|26=>144|27=>145|28=>146|29=>147|36=>150|31=>151|32=>152|37=>153|38=>154|39=>155|41=>156|n=>n,fun|27=>69|29=>9|3=>3|32=>214|26=>69|0=>0|44=>166|46=>163|4=>4|36=>243|35=>242|41=>248|5=>5|9=>9|53=>252|57=>255|63=>257|64=>258|n=>n,fun|n=>n⟩
theorem Ai.sortA:Go.Proofs.SlLaysM.n6 Ag Ai.AFG:={
 mixed:=by kernel_rfl
 f6:=⟨Tryz.f123.name,Ar,AE6.trans (congrArg AA Aq)⟩
 f8:=AQS.trans (congrArg AA Aq)
 f9:=⟨Tryz.f137.name,Ar,AQR.trans (congrArg AA Aq)⟩
 f19:=AQc.trans (congrArg AA Aq)
 f20:=AQd.trans (congrArg AA Aq)
 f21:=⟨Tryz.f139.name,Ar,AQT.trans (congrArg AA Aq)⟩
 f22:=⟨Tryz.f140.name,Ar,AQU.trans (congrArg AA Aq)⟩
 f23:=⟨Tryz.f141.name,Ar,AQV.trans (congrArg AA Aq)⟩
 f24:=⟨Tryz.f142.name,Ar,AQW.trans (congrArg AA Aq)⟩
 f25:=⟨Tryz.f143.name,Ar,AQX.trans (congrArg AA Aq)⟩
 f26:=⟨Tryz.f144.name,Ar,AQY.trans (congrArg AA Aq)⟩
 f27:=⟨Tryz.f145.name,Ar,AQZ.trans (congrArg AA Aq)⟩
 f28:=⟨Tryz.f146.name,Ar,AQa.trans (congrArg AA Aq)⟩
 f29:=⟨Tryz.f147.name,Ar,AQb.trans (congrArg AA Aq)⟩
 f31:=AQf.trans (congrArg AA Aq)
 f32:=AQg.trans (congrArg AA Aq)
 f36:=⟨Tryz.f150.name,Ar,AQe.trans (congrArg AA Aq)⟩
 f37:=⟨Tryz.f153.name,Ar,AQh.trans (congrArg AA Aq)⟩
 f38:=⟨Tryz.f154.name,Ar,AQi.trans (congrArg AA Aq)⟩
 f39:=⟨Tryz.f155.name,Ar,AQj.trans (congrArg AA Aq)⟩
 f41:=⟨Tryz.f156.name,Ar,AQk.trans (congrArg AA Aq)⟩
 t0:=VU0
 a0:=VI0
 z0:=VS0
 v0:=VZ0
 t3:=VU3
 a3:=VI3
 z3:=VS3
 v3:=VZ3
 t4:=VU4
 a4:=VI4
 z4:=VS4
 v4:=VZ4
 t5:=VU5
 a5:=VI5
 z5:=VS5
 v5:=VZ5
 t9:=LC
 a9:=VI9
 z9:=VS9
 v9:=VZ9
 t26:=AKT
 a26:=AKU
 z26:=AKV
 v26:=AKW
 t27:=AKT
 a27:=AKU
 z27:=AKV
 v27:=AKW
 t29:=LC
 a29:=VI9
 z29:=VS9
 v29:=VZ9
 t32:=ARK
 a32:=ARL
 z32:=ARN
 v32:=ARO
 t35:=ARP
 a35:=ARQ
 z35:=ARR
 v35:=ARS
 t36:=ART
 a36:=ARU
 z36:=ARV
 v36:=ARW
 t41:=ARX
 a41:=ARY
 z41:=ARZ
 v41:=ARa
 t44:=ARD
 a44:=ARF
 z44:=ARH
 v44:=ARI
 t46:=AQ9
 a46:=ARA
 z46:=ARB
 v46:=ARC
 t53:=ARb
 a53:=ARc
 z53:=ARd
 v53:=ARe
 t57:=ARf
 a57:=ARg
 z57:=ARh
 v57:=ARi
 t63:=ARj
 a63:=ARk
 z63:=ARl
 v63:=ARm
 t64:=ARn
 a64:=ARo
 z64:=ARp
 v64:=ARq}
def Ai.AHp:Go.Shelf.Ren:=⟨fun|5=>86|7=>121|n=>n,fun|23=>130|25=>9|3=>121|4=>4|20=>20|n=>n,fun|n=>n⟩
theorem Ai.ATt:Go.Proofs.SlLaysW.n5 Ag Ai.AHp:={
 mixed:=by kernel_rfl
 f5:=⟨Tryz.f86.name,Ar,AN9.trans (congrArg AA Aq)⟩
 f7:=AQl.trans (congrArg AA Aq)
 t4:=VU4
 a4:=VI4
 z4:=VS4
 v4:=VZ4
 t20:=ATd
 a20:=ATe
 z20:=ATf
 v20:=ATg
 t23:=PY
 a23:=AKY
 z23:=AKZ
 v23:=AKa}
end Go.Proofs.YtkkgcebhfghdnaaGreatDoor
namespace Go.Proofs.YtkkgcebhfghdnaaGreatDoor.Vw
open Go.RowKit
section
variable {k:ByteArray}{B m m' n:Nat}{A:Option Af}{α:Type}{w w':AL}
def Uf (a s:Int):Bool:=decide (0<=a) && decide (a<=s)
theorem xB(b:Nat)(a s:Int)(w:AL)(h5:w.cell? ⟨b,5,AB⟩=AA (.int .i64 a))(h6:w.cell? ⟨b,6,AB⟩=AA (.int .i64 s)):
  Au Ag 61 #[.pointer (AA ⟨b,0,AB⟩)] w λe w'=>e=.returned (.bool (Uf a s))/\AZ [] w w':=by
 by_cases ha:0<=a
 ·(have d1:decide (0<=a)=true:=by simp[ha]);have HD:Hid (Uf a s=decide (a<=s)):=AP (by unfold Uf;rw[d1,Bool.true_and]);clear ha;go_enter AJ1,Tryz.ntmps61;go_wp2;go_quiet (fail);go_wp2;go_ret;exact⟨by rw[HD.out];rfl,(AZ.refl [] w).drewN _⟩
 (have d1:decide (0<=a)=false:=by simp;omega);have HD:Hid (Uf a s=false):=AP (by unfold Uf;rw[d1,Bool.false_and]);clear ha;go_enter AJ1,Tryz.ntmps61;go_wp2;go_quiet (fail);go_wp2;go_ret;exact⟨by rw[HD.out];rfl,(AZ.refl [] w).drewN _⟩
def PE (a b:ByteArray):Bool:=Op.bytesLess a.toList b.toList || a.toList==b.toList
theorem Rj(a b:ByteArray)(w:AL):(binOp .leq 9 (.string a) (.string b)).run Ag w=.ok (.bool (PE a b)) w:=by
 simp[binOp,Op.stringOp,PE]
def Gq (f:Bool) (last name:ByteArray):Int:=if CV name=false then 81 else if f=false/\PE name last=true then 6 else 0
theorem dE(f:Bool)(last name:ByteArray)(w:AL):
  Au Ag 58 #[.bool f,.string last,.string name] w λe w'=>e=.returned (.int .i64 (Gq f last name))/\w'=w:=by
 have hle:=λw=>Rj name last w
 cases hg:CV name with
 |false=>
  have HR:Hid (Gq f last name=81):=AP (by unfold Gq;rw[BZ hg]);have k36:= @wS;go_enter ACV,Tryz.ntmps58;(go_wp2_with fail);refine (SA name _).mono ?_;rintro e w1 ⟨rfl,rfl⟩;rw[hg];go_wp2;go_ret;exact⟨by rw[HR.out];rfl,rfl⟩
 |true=>
  cases f with
  |true=>
   have HR:Hid (Gq true last name=0):=AP (by unfold Gq;rw[BM (by simp[hg]),BM AV]);have k36:= @wS;go_enter ACV,Tryz.ntmps58;(go_wp2_with fail);refine (SA name _).mono ?_;rintro e w1 ⟨rfl,rfl⟩;rw[hg];go_wp2;go_ret;exact⟨by rw[HR.out];rfl,rfl⟩
  |false=>
   cases hl:PE name last with
   |true=>
    have HR:Hid (Gq false last name=6):=AP (by unfold Gq;rw[BM (by simp[hg]),BZ ⟨rfl,hl⟩]);rw[hl] at hle;have k36:= @wS;go_enter ACV,Tryz.ntmps58;(go_wp2_with fail);refine (SA name _).mono ?_;rintro e w1 ⟨rfl,rfl⟩;rw[hg];go_wp2;go_ret;exact⟨by rw[HR.out];rfl,rfl⟩
   |false=>
    have HR:Hid (Gq false last name=0):=AP (by unfold Gq;rw[BM (by simp[hg]),BM (by simp[hl])]);rw[hl] at hle;have k36:= @wS;go_enter ACV,Tryz.ntmps58;(go_wp2_with fail);refine (SA name _).mono ?_;rintro e w1 ⟨rfl,rfl⟩;rw[hg];go_wp2;go_ret;exact⟨by rw[HR.out];rfl,rfl⟩
open Go.Maps Go.Sort Go.Shelf
theorem insert_perm{H:Type}(x:Lit×Dt H): ∀l:List (Lit×Dt H),(DataW.insert x l).Perm (x::l)
 | []=>OV _
 |y::r=>by
  unfold DataW.insert;split;exact OV _;exact ((insert_perm x r).cons y).trans (List.Perm.swap x y r)
theorem Ug{H:Type}: ∀l:List (Lit×Dt H),(l.foldr DataW.insert []).Perm l
 | []=>OV _|x::r=>(insert_perm x _).trans ((Ug r).cons x)
abbrev IZ:ByteArray->AQ:=λz=>WN z
def ACg:AQ->Option (Dt Unit×List GZ):=λ_=>AA (.nil,[])
def Uh (ks:List ByteArray):List ByteArray:=((ks.map (·.data.toList)).mergeSort (λx y=>decide (x<=y))).map λl=>⟨l.toArray⟩
def Pm (ks:List ByteArray):List AQ:=ks.map WN
theorem Mp.owns{b:Nat}{m:List (ByteArray×AQ)}(h:Mp w b IZ m){kt:Am}(hkt:Ag.underlying kt=AA .string)(hk: ∀p∈m,p.1.size<=ET)(hm:m.length<=ET):
  ∃D:Dt Unit,w.ownsMap Ag kt ACg b m.length D/\(strKeys D).Perm ((m.map Ac).map (·.data.toList))/\Maps.size D=m.length:=by
 obtain⟨es,clock,hb,he,hn,hs,hc⟩:=h;(have hlen:es.toList.length=m.length:=by have:=congrArg Ky he;simpa using this);have hkeys:=Mp.keys he
 have hat: ∀x∈es.toList,∃k:ByteArray,x.key=WN k/\k.size<=ET:=by
  intro x hx;have:x.key∈es.toList.map (·.key):=Bv.2 ⟨x,hx,rfl⟩;rw[hkeys] at this;obtain⟨k,hk1,hk2⟩:=Bv.1 this;obtain⟨p,hp1,rfl⟩:=Bv.1 hk1;exact⟨p.1,hk2.symm,hk p hp1⟩
 have hrd: ∀x∈es.toList,∃k:ByteArray,x.key=WN k/\WideElems.rd Ag kt ACg x=AA (.string k.data.toList,.nil):=by
  intro x hx;obtain⟨k,h1,h2⟩:=hat x hx;refine⟨k,h1,?_⟩;unfold WideElems.rd;rw[h1,WideMaps.keyOf_string_mk hkt h2];rfl
 refine⟨_,⟨es,clock,hb,⟨by rw[<- WM,hlen];exact hm,⟨hc,hs,?_⟩,λx hx=>?_⟩,by rw[<- WM,hlen];exact Bc _,rfl⟩,?_,?_⟩
 ·rw[hkeys];exact List.Pairwise.map IZ (R:=(· ≠ ·)) (S:=(· ≠ ·)) (λa b hab e=>hab (by injection e)) hn
 obtain⟨k,_,h2⟩:=hrd x hx;exact⟨_,h2⟩
 ·show (((es.toList.map (WideElems.rg Ag kt ACg)).foldr DataW.insert []).map λp=>strOf p.1).Perm _;refine ((Ug _).map _).trans ?_
  have:(es.toList.map (WideElems.rg Ag kt ACg)).map (λp=>strOf p.1)=(m.map Ac).map (·.data.toList):=by
   rw[Eo]
   have h2:(es.toList.map λx=>match x.key with| .string a=>a.data.toList|_=>[])=(m.map Ac).map (·.data.toList):=by
    have:=congrArg (List.map λv:AQ=>match v with| .string a=>a.data.toList|_=>[]) hkeys;rw[Eo,Eo] at this;exact this
   rw[<- h2];refine Hu λx hx=>?_;obtain⟨k,h3,h4⟩:=hrd x hx;simp only[Function.comp_apply,WideElems.rg,h4,h3,Dx,strOf]
  rw[this]
 show (((es.toList.map (WideElems.rg Ag kt ACg)).foldr DataW.insert [])).length=_;rw[(Ug _).length_eq,DY,hlen]
theorem sortsA(m:Nat):AnyZ.SortsIn Ag Ai.sortedA_ren UW m:=
 ⟨λblk off cap ss W hH hblk hsz=>callsIn_wide.2 (AnyM.slices_Sort_string Ai.sortA blk off cap ss W hH hblk hsz),
  λp cap W=>callsIn_wide.2 (AnyM.slices_Sort_string_none Ai.sortA p cap W)⟩
theorem qE(mb:Option Nat)(W:AL):Au Ag 88 #[.map mb] W λe w'=>e=.returned (.func (.func 124) #[] #[.pointer (AA ⟨W.heap.size,0,AB⟩)])/\w'=W.alloc (.cells #[.map mb] 112):=
 (callsIn_wide (n:=5)).1 (AnyZ.keys_in Ai.AGa UW 5 trivial rfl mb W)
theorem qF(mb:Option Nat)(W:AL):Au Ag 89 #[.map mb] W λe w'=>e=.returned (.func (.func 125) #[] #[.pointer (AA ⟨W.heap.size,0,AB⟩)])/\w'=W.alloc (.cells #[.map mb] 130):=
 (callsIn_wide (n:=5)).1 (AnyZ.keys_in Ai.AGb UW 5 trivial rfl mb W)
theorem ZF{W:AL}{m:List (ByteArray×AQ)}{D:Dt Unit}{v:AQ}{ss:List (List UInt8)}(hperm:(strKeys D).Perm ((m.map Ac).map (·.data.toList)))(hp:ss.Perm (strKeys D))
  (hrow:w'.ownsRow W.heap.size 9 1 v ss.length ((ss.mergeSort (λx y=>decide (x<=y))).map encStr)) (hb:Below W.heap.size W w'):
  Lu 9 1 W (Pm (Uh (m.map Ac))) m.length (.returned v) w':=by
 (have hlen:ss.length=m.length:=by rw[(hp.trans hperm).length_eq,DY,DY]);have hse:ss.mergeSort (λx y=>decide (x<=y))=((m.map Ac).map (·.data.toList)).mergeSort (λx y=>decide (x<=y)):=mergeSort_of_perm (hp.trans hperm)
 have hsv:Pm (Uh (m.map Ac))=(((m.map Ac).map (·.data.toList)).mergeSort (λx y=>decide (x<=y))).map encStr:=by
  unfold Pm Uh;rw[Eo];rfl
 rw[hse,hlen,<- hsv] at hrow;rcases hrow.2 with ⟨hv,hz⟩|⟨g,cap,cur,hv,hbase,hr⟩
 ·subst hv;refine⟨AB,0,by rw[hz],⟨hrow.1,.inl ⟨by rw[hz],hz⟩⟩,AZ.of_below hb [],AV⟩
 subst hv;exact⟨_,cap,rfl,⟨hrow.1,.inr ⟨g,cap,cur,rfl,Dn _,hr⟩⟩,AZ.of_below hb [],by simpa using hbase⟩
theorem AAS(W:AL)(b:Nat)(m:List (ByteArray×AQ))(h:Mp W b IZ m)(hk: ∀p∈m,p.1.size<=ET)(hm:m.length<=1073741824):
  Au Ag 87 #[.func (.func 124) #[] #[.pointer (AA ⟨W.heap.size,0,AB⟩)]] (W.alloc (.cells #[.map (AA b)] 112)) (Lu 9 1 (W.alloc (.cells #[.map (AA b)] 112)) (Pm (Uh (m.map Ac))) m.length):=by
 obtain⟨D,hown,hperm,hsz⟩:=h.owns LC hk OH;have hbl:=hown.lt
 have hseq:SeqGives UW 2 Ag 124 #[.pointer (AA ⟨W.heap.size,0,AB⟩)] encStr (λss=>ss.Perm (strKeys D)) (Maps.size D) (W.alloc (.cells #[.map (AA b)] 112)):=
  AnyZ.keys_gives (ρ:=Ai.jV) {Ai.AGa with} UW _ trivial rfl Aa W.heap.size b m.length D _ AV AV (by
   obtain⟨es,clock,hb,Ft,hs,hD⟩:=hown
   exact⟨es,clock,(Below.heap_alloc _ _ b hbl).trans hb,Ft,hs,hD⟩)
 have cS:=AnyZ.sorted_in Ai.sortedA UW 5 trivial trivial trivial trivial rfl Aa (sortsA _) (enters_of AE6 Aq rfl) 124 #[.pointer (AA ⟨W.heap.size,0,AB⟩)] trivial (enters_of AJ7 Aq rfl) _ _ (by rw[hsz];unfold ET;omega) (by rw[hsz];omega) _ hseq;change CallsIn _ _ Ag 87 _ _ _ at cS;refine ((callsIn_wide (n:=5)).1 cS).mono ?_;rintro e w' ⟨v,ss,rfl,hp,hrow,hnil,hb⟩;exact ZF hperm hp hrow hb
theorem AAT(W:AL)(b:Nat)(m:List (ByteArray×AQ))(h:Mp W b IZ m)(hk: ∀p∈m,p.1.size<=ET)(hm:m.length<=1073741824):
  Au Ag 87 #[.func (.func 125) #[] #[.pointer (AA ⟨W.heap.size,0,AB⟩)]] (W.alloc (.cells #[.map (AA b)] 130)) (Lu 9 1 (W.alloc (.cells #[.map (AA b)] 130)) (Pm (Uh (m.map Ac))) m.length):=by
 obtain⟨D,hown,hperm,hsz⟩:=h.owns LC hk OH;have hbl:=hown.lt
 have hseq:SeqGives UW 2 Ag 125 #[.pointer (AA ⟨W.heap.size,0,AB⟩)] encStr (λss=>ss.Perm (strKeys D)) (Maps.size D) (W.alloc (.cells #[.map (AA b)] 130)):=
  AnyZ.keys_gives (ρ:=Ai.jW) {Ai.AGb with} UW _ trivial rfl Aa W.heap.size b m.length D _ AV AV (by
   obtain⟨es,clock,hb,Ft,hs,hD⟩:=hown
   exact⟨es,clock,(Below.heap_alloc _ _ b hbl).trans hb,Ft,hs,hD⟩)
 have cS:=AnyZ.sorted_in Ai.sortedA UW 5 trivial trivial trivial trivial rfl Aa (sortsA _) (enters_of AE6 Aq rfl) 125 #[.pointer (AA ⟨W.heap.size,0,AB⟩)] trivial (enters_of AJ8 Aq rfl) _ _ (by rw[hsz];unfold ET;omega) (by rw[hsz];omega) _ hseq;change CallsIn _ _ Ag 87 _ _ _ at cS;refine ((callsIn_wide (n:=5)).1 cS).mono ?_;rintro e w' ⟨v,ss,rfl,hp,hrow,hnil,hb⟩;exact ZF hperm hp hrow hb
theorem ACh(W:AL)(b:Nat)(m:List (ByteArray×AQ))(h:Mp W b IZ m):
  Au Ag 86 #[.map (AA b)] W λe w'=>e=.returned (.map (AA W.heap.size))/\Mp w' W.heap.size IZ m/\AZ [] W w':=by
 obtain⟨es,clock,hb,he,hn,hs,hc⟩:=h;have c:=AnyW.maps_Clone Ai.ATt b es clock W hb;change Au Ag 86 _ _ _ at c;refine c.mono ?_;rintro e w' ⟨rfl,rfl⟩;exact⟨rfl,⟨es,clock,(MapKept.heap_alloc W _).1,he,hn,hs,hc⟩,(AZ.refl _ _).alloc _⟩
theorem AFH(l:List ByteArray):(l.map (·.data.toList)).map (λl=>(⟨l.toArray⟩:ByteArray))=l:=by
 rw[Eo]
 conv=>rhs;rw[<- List.map_id l]
 exact Hu λx _=>by cases x;rfl
theorem AGc{β:Type}{m:List (ByteArray×β)}{t:List (ByteArray×α)}(hp:(m.map Ac).Perm (t.map Ac))(hs:OI t):Uh (m.map Ac)=t.map Ac:=by
 unfold Uh;rw[show ((m.map Ac).map (·.data.toList)).mergeSort (λx y=>decide (x<=y))=((t.map Ac).map (·.data.toList)).mergeSort (λx y=>decide (x<=y)) from mergeSort_of_perm (hp.map _)];rw[List.mergeSort_of_pairwise];exact AFH _;refine List.Pairwise.map _ (λa b hab=>?_) hs;rw[TB] at hab;simp only[decide_eq_true_eq];exact List.le_of_lt hab
def ACi (m:List (ByteArray×AQ)) (k:ByteArray):AQ:=(BK m k).getD (.map AB)
def Qj (a s:Int) (m:List (ByteArray×AQ)) (there:Bool) (ns:List ByteArray):Int:=
 if Uf a s=true then 80 else if ns.all CV=false then 81 else if there=true/\(BK m (ns.headD MM)).isNone=true then 82 else 0
theorem AAU{c:Nat}{ns:List ByteArray}(h:Rd w 1 A n c (Pm ns)){j:Nat}(hj:j<n):
  ∃ad s,A=AA ad/\ns[j]? =AA s/\w.cell? (ad.add j)=AA (.string s):=by
 obtain⟨ad,u,hA,hx,hc⟩:=h.gU hj;unfold Pm at hx;rw[Bg] at hx
 cases hs:ns[j]? with|none=>rw[hs] at hx;cases hx|some s=>rw[hs] at hx;simp at hx;subst hx;exact⟨ad,s,hA,rfl,hc⟩
theorem ACj(b sb:Nat)(a s:Int)(m:List (ByteArray×AQ))(there:Bool)(A:Option Af)(n c:Nat)(ns:List ByteArray)(w:AL)
  (h0:w.cell? ⟨b,0,AB⟩=AA (.map (AA sb))) (h5:w.cell? ⟨b,5,AB⟩=AA (.int .i64 a)) (h6:w.cell? ⟨b,6,AB⟩=AA (.int .i64 s))
  (hm:Mp w sb IZ m) (hv: ∀p∈m,∃r,p.2=.map (AA r)) (hr:Rd w 1 A n c (Pm ns)) (hn:n<=1073741824) (ht:there=true->0<n):
  Au Ag 70 #[.pointer (AA ⟨b,0,AB⟩),.bool there,.slice A n c] w λe w'=>e=.returned (.int .i64 (Qj a s m there ns))/\AZ [] w w':=by
 (have hl:ns.length=n:=by have:=hr.1;simp[Pm] at this;omega);have HR:=AP hr;have HL:=AP hl;have HMP:=AP hm;have HV:=AP hv;have H0:=AP h0;have HT:=AP ht;clear hr hl hm hv h0 ht;have k36:= @wS;have k61:= @AKP;go_enter AN1,Tryz.ntmps70;(go_wp2_with fail);refine (xB b a s w h5 h6).mono ?_;rintro e w1 ⟨rfl,hc1⟩;have CZ:=AP hc1;clear hc1 h5 h6
 cases hd:Uf a s with
 |true=>
  have HE:Hid (Qj a s m there ns=80):=AP (by unfold Qj;rw[BZ hd]);clear hd;go_wp2;go_ret;exact⟨by rw[HE.out];rfl,CZ.out⟩
 |false=>
  have HD:=AP hd;clear hd;go_wp2;go_loopw [13] (λq wr=>∃i:Nat,i<=n/\q=.int .i64 i/\(∀x∈ns.take i,CV x=true)/\AZ [] w wr) (λq _=>n - (intOf q).toNat)
  case atStart=>exact⟨0,Dn _,rfl,AV,CZ.out⟩
  obtain⟨i,hi,rfl,hall,hch⟩:=hrel;have MQ:=AP hall;have DX:=AP hch;clear hall hch;by_cases hlt:i<n
  ·(have hlt':(i:Int)<n:=by omega);obtain⟨ad,x,rfl,hx,hcell⟩:=AAU (HR.out.Aj DX.out Ew) hlt;have HX:=AP hx;clear hx;(go_wp2_with fail);refine (SA x _).mono ?_;rintro e w3 ⟨rfl,rfl⟩
   cases hg:CV x with
   |false=>
    have HE:Hid (Qj a s m there ns=81):=AP (by
     unfold Qj
     rw[BM (by rw[HD.out];simp),BZ (by rw[List.all_eq_false];exact⟨x,Bq HX.out,by simp[hg]⟩)])
    clear hg;go_wp2;go_ret;exact⟨by rw[HE.out];rfl,DX.out⟩
   |true=>
    have HG:=AP hg;clear hg;go_wp2;go_roundw
    case rel=>
     refine⟨i+1,Aa,by go_num,λy hy=>?_,DX.out⟩;rw[take_snoc _ _ _ HX.out] at hy;rcases Bd.1 hy with h|h;exact MQ.out y h;simp at h;subst h;exact HG.out
    simp[intOf];omega
  (obtain rfl:i=n:=by omega);have HAL:Hid (ns.all CV=true):=AP (JH.2 (λx hx=>MQ.out x (by rw[Ep (by rw[HL.out];exact Bc _)];exact hx)))
  cases there with
  |false=>
   have HE:Hid (Qj a s m false ns=0):=AP (by unfold Qj;rw[BM (by rw[HD.out];simp),BM (by rw[HAL.out];simp),BM AV]);(go_wp2_with fail);go_quiet (fail);go_wp2;go_ret;exact⟨by rw[HE.out];rfl,DX.out.drewN _⟩
  |true=>
   have hn0:=HT.out rfl;obtain⟨ad,x,rfl,hx,hcell⟩:=AAU (HR.out.Aj DX.out Ew) hn0;(have hcell0:wr.cell? ad=AA (.string x):=by simpa[UM] using hcell);(have hn1:(0:Int)<(i:Int):=by omega);have hq:=λw r=>run_eql_map_nil (P:=Ag) w 130 _ _ r PY;have h0:=DX.out.cell H0.out (λh=>BH h);have hmp:=HMP.out.Aj DX.out (λh=>BH h);have hlk: ∀q,(P7 112 (.map (AA sb)) (.string x) false).run Ag (wr.drewN q)=.ok (ACi m x) (wr.drewN q):=λq=>(Mp.lookup (hmp.Aj ((AZ.refl [] wr).drewN q) (λh=>BH h)) (DC LC) I4 (z:=.map AB) Aq x).1
   have hhd:ns.headD MM=x:=by
    cases ns with|nil=>simp at hx|cons y r=>simp at hx;exact hx
   have HHD:=AP hhd;clear hx hcell hmp hhd;rcases hdv:BK m x with _|v
   ·(have uI:ACi m x=.map AB:=by unfold ACi;rw[hdv];rfl);have HE:Hid (Qj a s m true ns=82):=AP (by unfold Qj;rw[BM (by rw[HD.out];simp),BM (by rw[HAL.out];simp),BZ ⟨rfl,by rw[HHD.out,hdv];rfl⟩]);rw[uI] at hlk;clear uI hdv;(go_wp2_with fail);go_quiet (fail);go_wp2;go_ret;exact⟨by rw[HE.out];rfl,DX.out.drewN _⟩
   obtain⟨r,hrv⟩:=HV.out _ (CQ hdv);(have uI:ACi m x=.map (AA r):=by unfold ACi;rw[hdv];exact hrv);have HE:Hid (Qj a s m true ns=0):=AP (by unfold Qj;rw[BM (by rw[HD.out];simp),BM (by rw[HAL.out];simp),BM (by rintro⟨_,h⟩;rw[HHD.out,hdv] at h;cases h)]);rw[uI] at hlk;clear uI hdv hrv;(go_wp2_with fail);go_quiet (fail);go_wp2;go_ret;exact⟨by rw[HE.out];rfl,DX.out.drewN _⟩
section
variable {κ α β:Type} [DecidableEq κ]
theorem FZ(p:κ×α)(t:List (κ×α))(k:κ):BK (p::t) k=if p.1=k then AA p.2 else BK t k:=by
 unfold BK;rw[BN,RN];by_cases h:p.1=k;simp[h];(have hb:(p.1==k)=false:=by simp[h]);rw[BM h];simp only[hb];cases (t.map Ac).idxOf? k<;>simp
theorem gY(g:α->β)(t:List (κ×α))(k:κ):BK (t.map λp=>(p.1,g p.2)) k=(BK t k).map g:=by
 induction t with
 |nil=>rfl|cons p r ih=>
  rw[BN,FZ,FZ,ih];by_cases h:p.1=k<;>simp[h]
end
def Iu (f:List (ByteArray×Nat)):List (ByteArray×AQ):=f.map λp=>(p.1,.pointer (AA ⟨p.2,0,AB⟩))
def FD (t:List (ByteArray×Nat×List (ByteArray×Nat))):List (ByteArray×AQ):=t.map λp=>(p.1,.map (AA p.2.1))
structure Tree (w:AL) (tb:Nat) (t:List (ByteArray×Nat×List (ByteArray×Nat))):Prop where
 top:Mp w tb IZ (FD t)
 sub: ∀p∈t,Mp w p.2.1 IZ (Iu p.2.2)
 apart:(tb::t.map λp=>p.2.1).Nodup
theorem Tree.Aj{w w':AL}{tb:Nat}{t:List (ByteArray×Nat×List (ByteArray×Nat))}{L:List Nat}(h:Tree w tb t)(hc:AZ L w w')(h1:tb∉L)(h2: ∀p∈t,p.2.1∉L):Tree w' tb t:=
 ⟨h.top.Aj hc h1,λp hp=>(h.sub p hp).Aj hc (h2 p hp),h.apart⟩
theorem Tree.GH{tb:Nat}{t:List (ByteArray×Nat×List (ByteArray×Nat))}(h:Tree w tb t)(hc:AZ [] w w'):Tree w' tb t:=h.Aj hc BH Ew
theorem Ez(t:List (ByteArray×Nat×List (ByteArray×Nat)))(k:ByteArray):BK (FD t) k=(BK t k).map λd=>Value.map (AA d.1):=
 gY (λd:Nat×List (ByteArray×Nat)=>Value.map (AA d.1)) t k
theorem Vp(f:List (ByteArray×Nat))(k:ByteArray):BK (Iu f) k=(BK f k).map λi=>QW (AA ⟨i,0,AB⟩):=
 gY (λi:Nat=>QW (AA ⟨i,0,AB⟩)) f k
theorem qG{t:List (ByteArray×Nat×List (ByteArray×Nat))}: ∀p∈FD t,∃r,p.2=.map (AA r):=by
 intro p hp;obtain⟨q,_,rfl⟩:=Bv.1 hp;exact⟨q.2.1,rfl⟩
def Vq (a s:Int) (t:List (ByteArray×Nat×List (ByteArray×Nat))) (dir name:ByteArray):Option Nat×Int:=
 if Qj a s (FD t) true [dir,name]≠0 then (AB,Qj a s (FD t) true [dir,name]) else
 match (BK t dir).bind λd=>BK d.2 name with|none=>(AB,82)|some i=>(AA i,0)
def Xl (r:Option Nat×Int):AQ:=.tuple #[.pointer (r.1.map λi=>⟨i,0,AB⟩),.int .i64 r.2]
theorem AHq(b sb:Nat)(a s:Int)(t:List (ByteArray×Nat×List (ByteArray×Nat)))(dir name:ByteArray)(w:AL)
  (h0:w.cell? ⟨b,0,AB⟩=AA (.map (AA sb))) (h5:w.cell? ⟨b,5,AB⟩=AA (.int .i64 a)) (h6:w.cell? ⟨b,6,AB⟩=AA (.int .i64 s))
  (ht:Tree w sb t):
  Au Ag 81 #[.pointer (AA ⟨b,0,AB⟩),.string dir,.string name] w λe w'=>e=.returned (Xl (Vq a s t dir name))/\AZ [] w w':=by
 have HT:=AP ht;have H0:=AP h0;have H5:=AP h5;have H6:=AP h6;clear ht h0 h5 h6;have k70:= @jS;go_enter AN5,Tryz.ntmps81;(go_wp2_with fail);have hal:AZ [] w (w.alloc (.cells #[.string dir,.string name] 9)):=(AZ.refl _ _).alloc _;refine (ACj b sb a s (FD t) true _ 2 2 [dir,name] _ (hal.cell H0.out (λh=>BH h)) (hal.cell H5.out (λh=>BH h)) (hal.cell H6.out (λh=>BH h)) (HT.out.top.Aj hal BH) qG (Own.lit w 9 1 #[.string dir,.string name] 2 Ar rfl).rd Ar (λ_=>by decide)).mono ?_;rintro e w1 ⟨rfl,hc1⟩;have CZ:Hid (AZ [] w w1):=AP (hal.Ah hc1);clear hc1 hal;obtain⟨E,hE⟩: ∃E,Qj a s (FD t) true [dir,name]=E:=⟨_,rfl⟩;rw[hE];have HE:=AP hE;clear hE;by_cases h:E=0
 ·subst h
  have hne: ∃d,BK t dir=AA d:=by
   cases hd:BK t dir with
   |some d=>exact⟨d,rfl⟩|none=>
    have q:=HE.out;(have hg:BK (FD t) dir=AB:=by rw[Ez,hd];rfl);unfold Qj at q;split at q;(cases q);split at q;(cases q);simp only[Rt,hg,Option.isNone_none,and_self,if_true] at q;cases q
  obtain⟨d,hd⟩:=hne;have h0:=CZ.out.cell H0.out (λh=>BH h);have ht1:=HT.out.GH CZ.out;have hl1:=(Mp.lookup ht1.top (DC LC) I4 (z:=.map AB) Aq dir).1;have hl2:=(Mp.lookup (ht1.sub _ (CQ hd)) (DC LC) PY (z:=.pointer AB) Aq name).1;rw[show BK (FD t) dir=AA (.map (AA d.1)) from by rw[Ez,hd];rfl] at hl1;simp only[Dx] at hl1;simp only at hl2;rw[show BK (Iu d.2) name=(BK d.2 name).map (λi=>QW (AA ⟨i,0,AB⟩)) from Vp _ _] at hl2;have HD:=AP hd;clear hd ht1
  cases hx:BK d.2 name with
  |none=>
   have HR:Hid (Vq a s t dir name=(AB,82)):=AP (by unfold Vq;rw[BM (by rw[HE.out];simp),HD.out];simp only[WI,hx]);rw[hx] at hl2;simp only[YG,Option.getD_none] at hl2;clear hx;go_wp2
   go_ret2
   exact⟨by rw[HR.out];rfl,CZ.out⟩
  |some i=>
   have HR:Hid (Vq a s t dir name=(AA i,0)):=AP (by unfold Vq;rw[BM (by rw[HE.out];simp),HD.out];simp only[WI,hx]);rw[hx] at hl2;simp only[Fq,Dx] at hl2;clear hx;go_wp2
   go_ret2
   exact⟨by rw[HR.out];rfl,CZ.out⟩
 (have hb:(E !=0)=true:=by simp[h]);have HR:Hid (Vq a s t dir name=(AB,E)):=AP (by unfold Vq;rw[BZ (by rw[HE.out];exact h),HE.out]);clear h;go_wp2
 go_ret2
 exact⟨by rw[HR.out];rfl,CZ.out⟩
section
variable {κ α β:Type} [DecidableEq κ]
theorem NL(t:List (κ×α))(k k':κ):BK (without t k) k'=if k=k' then AB else BK t k':=by
 induction t with
 |nil=>unfold without BK;split<;>rfl|cons p r ih=>
  rw[Ed,FZ];by_cases h:p.1=k
  ·rw[BZ h,ih];by_cases h2:k=k';rw[BZ h2,BZ h2];rw[BM h2,BM h2,BM (λe=>h2 (h▸e))]
  rw[BM h,FZ,ih];by_cases h2:p.1=k';rw[BZ h2,BM (λe=>h (h2.trans e.symm)),BZ h2];rw[BM h2,BM h2]
theorem Zx{t:List (κ×α)}(hn:(t.map Ac).Nodup)(k k':κ):BK (JC t k) k'=if k=k' then AB else BK t k':=by
 rw[NK hn,NL]
theorem IM{t:List (κ×α)}{k:κ}:(BK t k).isSome=true↔k∈t.map Ac:=by
 cases h:BK t k with|none=>rw[Eh] at h;simp[h]|some v=>exact⟨λ_=>Bv.2 ⟨_,CQ h,rfl⟩,λ_=>rfl⟩
theorem LX{t:List (κ×α)}{p:κ×α}(hn:(t.map Ac).Nodup)(h:p∈t):BK t p.1=AA p.2:=Ri hn h
end
section
variable {α:Type}
theorem Qk{t:List (ByteArray×α)}(hk:k∉t.map Ac)(v:α)(k':ByteArray):BK (Dh k v t) k'=if k=k' then AA v else BK t k':=by
 induction t with
 |nil=>
  simp only[Dh];rw[FZ]
 |cons p r ih=>
  have h1:k≠p.1:=λe=>hk (by simp[e]);have h2:k∉r.map Ac:=λe=>hk (CO _ e);rw[Dh];split;rw[FZ];rw[FZ,ih h2,FZ];by_cases h3:p.1=k';rw[BZ h3,BM (λe=>h1 (e.trans h3.symm)),BZ h3];rw[BM h3,BM h3]
theorem Ju{t:List (ByteArray×α)}(k:ByteArray):k∉(without t k).map Ac:=by
 intro h;obtain⟨p,hp,rfl⟩:=Bv.1 h;unfold without at hp;simp at hp
theorem FK{t:List (ByteArray×α)}{p:ByteArray×α}:p∈without t k↔p∈t/\p.1≠k:=by
 unfold without;simp
theorem Nr{t:List (ByteArray×α)}{v:α}{p:ByteArray×α}:p∈Dh k v t↔p=(k,v)\/p∈t:=by
 rw[(Hm k v t).mem_iff,BD]
end
abbrev Jv:=List (ByteArray×Nat)
abbrev Tr:=List (ByteArray×Jv)
inductive EF where
 |Cc (d:ByteArray)|create (d n:ByteArray) (i:Nat)|rename (a b:ByteArray)|remove (d n:ByteArray)|rmdir (d:ByteArray)
def FO (T:Tr) (d:ByteArray):Jv:=(BK T d).getD []
def EF.on (T:Tr):EF->Tr
 | .Cc d=>Dh d [] T| .create d n i=>Dh d (Dh n i (FO T d)) (without T d)| .rename a b=>Dh b (FO T a) (without (without T a) b)| .remove d n=>Dh d (without (FO T d) n) (without T d)| .rmdir d=>without T d
def EF.ok (m:Nat) (T:Tr):EF->Prop
 | .Cc d=>CV d=true/\BK T d=AB| .create d n i=>i<m/\CV n=true/\∃F,BK T d=AA F/\BK F n=AB| .rename a b=>CV b=true/\∃F,BK T a=AA F| .remove d _=>∃F,BK T d=AA F| .rmdir d=>∃F,BK T d=AA F
structure Val (m:Nat) (T:Tr):Prop where
 Uh:OI T
 sub: ∀p∈T,OI p.2
 ids: ∀p∈T,∀q∈p.2,q.2<m
 nm: ∀p∈T,CV p.1=true
 nms: ∀p∈T,∀q∈p.2,CV q.1=true
theorem Val.Xm{T:Tr}(h:Val m T)(d:ByteArray):OI (FO T d)/\(∀q∈FO T d,q.2<m)/\∀q∈FO T d,CV q.1=true:=by
 unfold FO
 cases hd:BK T d with|none=>exact⟨mO,λq hq=>by simp at hq,λq hq=>by simp at hq⟩|some F=>exact⟨h.sub _ (CQ hd),h.ids _ (CQ hd),h.nms _ (CQ hd)⟩
theorem Val.mono{T:Tr}(h:Val m T)(hm:m<=m'):Val m' T:=⟨h.Uh,h.sub,λp hp q hq=>EY (h.ids p hp q hq) hm,h.nm,h.nms⟩
theorem Val.without{m:Nat}{T:Tr}(h:Val m T)(d:ByteArray):Val m (without T d):=
 ⟨h.Uh.without d,λp hp=>h.sub p (FK.1 hp).1,λp hp=>h.ids p (FK.1 hp).1,λp hp=>h.nm p (FK.1 hp).1,λp hp=>h.nms p (FK.1 hp).1⟩
theorem Val.with_{m:Nat}{T:Tr}(h:Val m T){d:ByteArray}{F:Jv}(hd:d∉T.map Ac)(hg:CV d=true)(h1:OI F)(h2: ∀q∈F,q.2<m)(h3: ∀q∈F,CV q.1=true):Val m (Dh d F T):=
 ⟨h.Uh.with_ F hd,λp hp=>by rcases Nr.1 hp with rfl|hp;exact h1;exact h.sub p hp,λp hp=>by rcases Nr.1 hp with rfl|hp;exact h2;exact h.ids p hp,
  λp hp=>by rcases Nr.1 hp with rfl|hp;exact hg;exact h.nm p hp,λp hp=>by rcases Nr.1 hp with rfl|hp;exact h3;exact h.nms p hp⟩
theorem Val.on{m:Nat}{T:Tr}(h:Val m T){c:EF}(hc:c.ok m T):Val m (c.on T):=by
 cases c with
 |Cc d=>exact h.with_ (Eh.1 hc.2) hc.1 mO AV AV|create d n i=>
  obtain⟨hi,hg,F,hF,hn⟩:=hc;(have hf:FO T d=F:=by unfold FO;rw[hF];rfl);refine (h.without d).with_ (Ju d) (h.nm _ (CQ hF)) ?_ ?_ ?_;rw[hf];exact (h.sub _ (CQ hF)).with_ i (Eh.1 hn)
  ·rw[hf];intro q hq;rcases Nr.1 hq with rfl|hq;exact hi;exact h.ids _ (CQ hF) q hq
  rw[hf];intro q hq;rcases Nr.1 hq with rfl|hq;exact hg;exact h.nms _ (CQ hF) q hq
 |rename a b=>
  exact ((h.without a).without b).with_ (Ju b) hc.1 (h.Xm a).1 (h.Xm a).2.1 (h.Xm a).2.2
 |remove d n=>
  obtain⟨F,hF⟩:=hc;exact (h.without d).with_ (Ju d) (h.nm _ (CQ hF)) ((h.Xm d).1.without n) (λq hq=>(h.Xm d).2.1 q (FK.1 hq).1) (λq hq=>(h.Xm d).2.2 q (FK.1 hq).1)
 |rmdir d=>exact h.without d
theorem AFI{x:ByteArray}(h:CV x=true):x.size<=30:=by
 unfold CV at h;simp only[DV,decide_eq_true_eq] at h;omega
def wd (T:Tr):Nat:=(T.map λp=>p.2.length+1).sum
theorem Yb(d:ByteArray)(F:Jv)(T:Tr):wd (Dh d F T)=F.length+1+wd T:=by
 unfold wd;rw[((Hm d F T).map _).sum_nat,BN,CE]
theorem Xn(T:Tr)(d:ByteArray):wd (without T d)<=wd T:=by
 unfold wd without
 induction T with
 |nil=>simp|cons p r ih=>
  rw[XC];split;simp only[BN,CE];omega;simp only[BN,CE];omega
theorem AAV(T:Tr)(d:ByteArray):(FO T d).length+(if BK T d=AB then 0 else 1)+wd (without T d)<=wd T:=by
 induction T with
 |nil=>simp[FO,BK,wd,without]|cons p r ih=>
  unfold FO at ih⊢;rw[FZ,Ed];by_cases h:p.1=d
  ·rw[BZ h,BZ h];have:=Xn r d;simp only[Dx,wd,BN,CE] at this⊢;simp;omega
  rw[BM h,BM h];simp only[wd,BN,CE] at ih⊢;omega
theorem AAW(T:Tr):T.length<=wd T:=by
 unfold wd
 induction T with|nil=>simp|cons p r ih=>simp only[EU,BN,CE];omega
theorem AAX{T:Tr}{p:ByteArray×Jv}(h:p∈T):p.2.length<=wd T:=by
 unfold wd
 induction T with
 |nil=>simp at h|cons q r ih=>
  simp only[BN,CE];rcases BD.1 h with rfl|h;omega;have:=ih h;omega
theorem AFJ(k:ByteArray)(v:α)(t:List (ByteArray×α)):(Dh k v t).length=t.length+1:=by
 rw[(Hm k v t).length_eq,EU]
theorem AAY(t:List (ByteArray×α))(k:ByteArray):(without t k).length<=t.length:=aW _ _
theorem ARw{T:Tr}{c:EF}(hc:c.ok m T):wd (c.on T)<=wd T+1:=by
 cases c with
 |Cc d=>simp only[EF.on,Yb,Hr];omega|create d n i=>
  obtain⟨hi,hg,F,hF,hn⟩:=hc;have:=AAV T d;rw[hF,BM AV] at this;simp only[EF.on,Yb,AFJ];omega
 |rename a b=>
  obtain⟨hg,F,hF⟩:=hc;have:=AAV T a;rw[hF,BM AV] at this;have:=Xn (without T a) b;simp only[EF.on,Yb];omega
 |remove d n=>
  obtain⟨F,hF⟩:=hc;have:=AAV T d;rw[hF,BM AV] at this;have:=AAY (FO T d) n;simp only[EF.on,Yb];omega
 |rmdir d=>simp only[EF.on];have:=Xn T d;omega
abbrev Ee:=List Int×List (List Int)
def Ee.all (f:Ee):List Int:=f.1++f.2.flatten
structure St where
 seen:Tr
 safe:Tr
 ED:List EF
 files:List Ee
 wr:List Nat
 BG:Int
 stop:Int
 steps:Nat
def IC (T:Tr) (cs:List EF):Tr:=cs.foldl (λt c=>EF.on t c) T
def gZ (m:Nat):Tr->List EF->Prop
 |_,[]=>True|T,c::r=>c.ok m T/\gZ m (c.on T) r
theorem TC(T:Tr)(cs:List EF)(c:EF):IC T (cs++[c])=c.on (IC T cs):=by simp[IC]
theorem AHr{T:Tr}{cs:List EF}{c:EF}:gZ m T (cs++[c])↔gZ m T cs/\c.ok m (IC T cs):=by
 induction cs generalizing T with|nil=>simp[gZ,IC]|cons x r ih=>simp only[Dp,gZ,ih,IC,WC,and_assoc]
theorem VD{T:Tr}{cs:List EF}(h:gZ m T cs)(k:Nat):gZ m T (cs.take k):=by
 induction cs generalizing T k with
 |nil=>simpa using h|cons x r ih=>
  cases k with|zero=>exact Ap|succ k=>exact⟨h.1,ih h.2 k⟩
theorem AMu{T:Tr}{cs:List EF}(h:gZ m T cs){i:Nat}{c:EF}(hi:cs[i]? =AA c):c.ok m (IC T (cs.take i)):=by
 induction cs generalizing T i with
 |nil=>simp at hi|cons x r ih=>
  cases i with|zero=>simp at hi;subst hi;exact h.1|succ i=>simp at hi;simpa[IC] using ih h.2 hi
theorem EF.AKn{T:Tr}{c:EF}(h:c.ok m T)(hm:m<=m'):c.ok m' T:=by
 cases c<;>first|exact h|exact⟨EY h.1 hm,h.2⟩
theorem AHs{T:Tr}{cs:List EF}(h:gZ m T cs)(hm:m<=m'):gZ m' T cs:=by
 induction cs generalizing T with|nil=>trivial|cons x r ih=>exact⟨EF.AKn h.1 hm,ih h.2⟩
theorem Val.run{T:Tr}{cs:List EF}(h:Val m T)(hc:gZ m T cs):Val m (IC T cs):=by
 induction cs generalizing T with|nil=>exact h|cons x r ih=>exact ih (h.on hc.1) hc.2
theorem AAZ{T:Tr}{cs:List EF}(hc:gZ m T cs):wd (IC T cs)<=wd T+cs.length:=by
 induction cs generalizing T with
 |nil=>simp[IC]|cons x r ih=>
  have h1:=ARw hc.1;have h2:=ih hc.2;simp only[IC,WC,EU] at h2⊢;omega
def Ik (fs:List Ee):Nat:=(fs.map λf=>f.all.length+f.2.length).sum
theorem AGd{fs:List Ee}{f:Ee}(h:f∈fs):f.all.length+f.2.length<=Ik fs:=by
 unfold Ik
 induction fs with
 |nil=>simp at h|cons q r ih=>
  simp only[BN,CE];rcases BD.1 h with rfl|h;omega;have:=ih h;omega
structure Inv (B:Nat) (S:St):Prop where
 safe:Val S.files.length S.safe
 ED:gZ S.files.length S.safe S.ED
 seen:IC S.safe S.ED=S.seen
 wr: ∀x∈S.wr,x<S.files.length
 wds:wd S.safe+S.ED.length<=B
 nf:S.files.length<=B
 bulk:Ik S.files<=B
 nw:S.wr.length<=B
 st:S.steps<=B
 BG:0<=S.BG/\S.BG<=9223372036854775807
theorem Inv.val{S:St}(h:Inv B S):Val S.files.length S.seen:=by rw[<- h.seen];exact h.safe.run h.ED
theorem Inv.wd{B:Nat}{S:St}(h:Inv B S):wd S.seen<=B:=by rw[<- h.seen];have:=AAZ h.ED;have:=h.wds;omega
theorem Inv.mono{B':Nat}{S:St}(h:Inv B S)(hb:B<=B'):Inv B' S:=by
 obtain⟨h1,h2,h3,h4,h5,h6,h7,h8,h9,h10⟩:=h;exact⟨h1,h2,h3,h4,Aa,Aa,Aa,Aa,Aa,h10⟩
def St.down (S:St):Bool:=Uf S.stop S.steps
def St.ask (S:St) (there:Bool) (ns:List ByteArray):Int:=
 if S.down=true then 80 else if ns.all CV=false then 81 else if there=true/\(BK S.seen (ns.headD MM)).isNone=true then 82 else 0
def St.Ov (S:St) (d n:ByteArray):Option Nat×Int:=
 if S.ask true [d,n]≠0 then (AB,S.ask true [d,n]) else match BK (FO S.seen d) n with|none=>(AB,82)|some i=>(AA i,0)
def St.bytes (S:St) (i:Nat):List Int:=Ee.all (S.files.getD i ([],[]))
def St.view (S:St):List (ByteArray×List (ByteArray×List Int)):=
 if S.down=true then [] else S.seen.map λp=>(p.1,p.2.map λq=>(q.1,S.bytes q.2))
def bytesOf (D:List (ByteArray×List (ByteArray×List Int))):Nat:=(D.map λp=>(p.2.map λq=>q.2.length).sum).sum
def St.used (S:St):Nat:=bytesOf S.view
def St.keep (S:St) (ks:List Bool) (x:Nat):List Bool:=((S.wr.zipIdx.filter λp=>p.1==x).map λp=>(ks[p.2]?).getD false)
def St.after (S:St) (ks:List Bool) (i:Nat):List Int:=let f:=S.files.getD i ([],[]);Ph f.1 f.1.length f.2 (S.keep ks i)
def St.left (S:St) (ks:List Bool) (names:Int):List (ByteArray×List (ByteArray×List Int)):=
 (IC S.safe (S.ED.take names.toNat)).map λp=>(p.1,p.2.map λq=>(q.1,S.after ks q.2))
def St.make (S:St) (c:EF):St:={S with seen:=c.on S.seen,ED:=S.ED++[c],steps:=S.steps+1}
def St.Cc (S:St) (d:ByteArray):St×Int:=
 if S.ask false [d]≠0 then (S,S.ask false [d]) else if (BK S.seen d).isSome=true then (S,83) else (S.make (.Cc d),0)
def St.create (S:St) (d n:ByteArray):St×Int:=
 if S.ask true [d,n]≠0 then (S,S.ask true [d,n]) else if (BK (FO S.seen d) n).isSome=true then (S,83) else
  (({S with files:=S.files++[([],[])]}:St).make (.create d n S.files.length),0)
def St.write (S:St) (d n:ByteArray) (data:List Int):St×Int:=
 match S.Ov d n with
 |(AB,e)=>(S,e)
 |(AA x,_)=>if data=[] then ({S with steps:=S.steps+1},0) else if S.BG<(S.used:Int)+data.length then (S,85) else
  ({S with files:=S.files.modify x (λf=>(f.1,f.2++[data])),wr:=S.wr++[x],steps:=S.steps+1},0)
def St.sync (S:St) (d n:ByteArray):St×Int:=
 match S.Ov d n with|(AB,e)=>(S,e)|(AA x,_)=>({S with files:=S.files.modify x (λf=>(Ee.all f,[])),wr:=S.wr.filter (λy=>y !=x),steps:=S.steps+1},0)
def St.names (S:St):St×Int:=
 if S.down=true then (S,80) else ({S with safe:=S.seen,ED:=[],steps:=S.steps+1},0)
def St.rename (S:St) (a b:ByteArray):St×Int:=
 if S.ask true [a,b]≠0 then (S,S.ask true [a,b]) else (S.make (.rename a b),0)
def St.remove (S:St) (d n:ByteArray):St×Int:=
 match S.Ov d n with|(AB,e)=>(S,e)|(AA _,_)=>(S.make (.remove d n),0)
def St.rmdir (S:St) (d:ByteArray):St×Int:=
 if S.ask true [d]≠0 then (S,S.ask true [d]) else if (FO S.seen d).length>0 then (S,85 - 1) else (S.make (.rmdir d),0)
def St.list (S:St) (d:ByteArray):List ByteArray×Int:=
 if S.ask true [d]≠0 then ([],S.ask true [d]) else ((FO S.seen d).map Ac,0)
def St.LY (S:St):List ByteArray×Int:=if S.down=true then ([],80) else (S.seen.map Ac,0)
theorem qH{c:Nat}{xs:List Int}(h:Rd w 1 A n c (bv xs)):(convert 62 9 (.slice A n c)).run Ag w=.ok (.string (Fe xs)) w:=by
 have hl:xs.length=n:=by have:=h.1;simp at this;omega
 cases A with
 |none=>
  have h1:=h.2.2.2.1 rfl;have h2:=h.2.1;have hx:xs=[]:=Tf Aa;subst hx;exact run_convert_bytes_nil w 62 5 wU VU5 _ _ _ LC
 |some ad=>
  have hld:(loadCells ad n).run Ag w=.ok (bv xs).toArray w:=by
   have:=run_loadCells_list (P:=Ag) w ad (bv xs) (λj v hj=>(h.2.2.2.2 ad rfl).2 j v hj);simpa[hl] using this
  rw[run_convert_bytes_string w _ _ _ _ n c wU VU5 LC,run_bytesToString w ad n c xs hld,foldl_push_bytes];simp[Fe,MM,ByteArray.emptyWithCapacity];rfl
def dF (p:Prop) (w:AL) (e:FT) (w':AL):Prop:=∃b:Bool,e=.returned (.bool b)/\(p->b=true)/\AZ [] w w'
theorem AFK(A:Option Af)(n c:Nat)(xs:List Int)(B:Option Af)(m d:Nat)(ys:List Int)(w:AL)(ha:Rd w 1 A n c (bv xs))(hb:Rd w 1 B m d (bv ys)):
  Au Ag 65 #[.slice A n c,.slice B m d] w (dF (xs=ys) w):=by
 have h1:=qH ha;have h2:=qH hb;obtain⟨s,hs⟩: ∃s,Fe xs=s:=⟨_,rfl⟩;obtain⟨t,ht⟩: ∃t,Fe ys=t:=⟨_,rfl⟩;rw[hs] at h1;rw[ht] at h2;have HST:Hid (xs=ys->s=t):=AP (by rintro rfl;rw[<- hs,<- ht]);clear ha hb hs ht;go_enter AN0,Tryz.ntmps65;go_wp2;go_ret;refine⟨_,rfl,λh=>?_,AZ.refl _ _⟩;rw[HST.out h];simp
end
section
variable {d n:ByteArray}{p:ByteArray×Nat×List (ByteArray×Nat)}{c:EF}{F:Jv}{f:List (ByteArray×Nat)}{L P ib:List Nat}{B fb i j k tb x:Nat}{S:St}{T T':Tr}{w w' w1:AL}
theorem ACk(tb db:Nat)(m:List (ByteArray×AQ))(dir:ByteArray)(w:AL)(hm:Mp w tb IZ m)(hd:w.cell? ⟨db,0,AB⟩=AA (.string dir)):
  Au Ag 72 #[.map (AA tb),.pointer (AA ⟨db,0,AB⟩)] w λe w'=>e=.returned (.tuple #[])/\∃fb,w.heap.size<=fb/\Mp w' fb IZ []/\Mp w' tb IZ (Dq m dir (.map (AA fb)))/\AZ [tb] w w':=by
 have hmm:= @run_makeMap Ag;have hal:AZ [] w (w.alloc (.map #[] 0)):=(AZ.refl _ _).alloc _;obtain⟨w2,hu,UH,hc2⟩:=Mp.update (hm.Aj hal BH) (DC LC) I4 dir (.map (AA w.heap.size));(have hne:w.heap.size≠tb:=by have:=hm.lt;omega);have HN:Hid (Mp w2 w.heap.size IZ []):=AP ((Mp.made w IZ).Aj hc2 (by simpa using hne));have HM:=AP UH;have HC:Hid (AZ [tb] w w2):=AP ((hal.nil [tb]).trans hc2 (λx hx=>.inl hx));clear hm UH hc2 hne hal;go_enter AN3,Tryz.ntmps72;go_wp2
 go_end0
 exact⟨rfl,_,Bc _,HN.out,HM.out,HC.out⟩
theorem ACl(tb db:Nat)(m:List (ByteArray×AQ))(dir:ByteArray)(w:AL)(hm:Mp w tb IZ m)(hd:w.cell? ⟨db,0,AB⟩=AA (.string dir)):
  Au Ag 130 #[.map (AA tb),.pointer (AA ⟨db,0,AB⟩)] w λe w'=>e=.returned (.tuple #[])/\Mp w' tb IZ (JC m dir)/\AZ [tb] w w':=by
 obtain⟨w2,hu,UH,hc2⟩:=Mp.del hm (ty:=0) (DC LC) I4 dir 9;have HM:=AP UH;have HC:=AP hc2;clear hm UH hc2;go_enter AKB,Tryz.ntmps130;go_wp2
 go_end0
 exact⟨rfl,HM.out,HC.out⟩
theorem AAa(tb fb db nb:Nat)(m f:List (ByteArray×AQ))(dir name:ByteArray)(w:AL)(hm:Mp w tb IZ m)(hf:Mp w fb IZ f)(hg:BK m dir=AA (.map (AA fb)))
  (hd:w.cell? ⟨db,0,AB⟩=AA (.string dir)) (hn:w.cell? ⟨nb,0,AB⟩=AA (.string name)):
  Au Ag 129 #[.map (AA tb),.pointer (AA ⟨db,0,AB⟩),.pointer (AA ⟨nb,0,AB⟩)] w λe w'=>e=.returned (.tuple #[])/\Mp w' fb IZ (JC f name)/\AZ [fb] w w':=by
 obtain⟨w2,hu,UH,hc2⟩:=Mp.del hf (ty:=0) (DC LC) PY name 9;have hl:=(Mp.lookup hm (DC LC) I4 (z:=.map AB) Aq dir).1;rw[hg,Dx] at hl;have HM:=AP UH;have HC:=AP hc2;clear hm hf UH hc2 hg;go_enter AKA,Tryz.ntmps129;go_wp2
 go_end0
 exact⟨rfl,HM.out,HC.out⟩
theorem AAb(tb fb xb db nb ib:Nat)(m f:List (ByteArray×AQ))(dir name:ByteArray)(w:AL)(hm:Mp w tb IZ m)(hf:Mp w fb IZ f)(hg:BK m dir=AA (.map (AA fb)))
  (hx:w.cell? ⟨xb,0,AB⟩=AA (.pointer (AA ⟨ib,0,AB⟩))) (hd:w.cell? ⟨db,0,AB⟩=AA (.string dir)) (hn:w.cell? ⟨nb,0,AB⟩=AA (.string name)):
  Au Ag 73 #[.map (AA tb),.pointer (AA ⟨xb,0,AB⟩),.pointer (AA ⟨db,0,AB⟩),.pointer (AA ⟨nb,0,AB⟩)] w λe w'=>e=.returned (.tuple #[])/\Mp w' fb IZ (Dq f name (.pointer (AA ⟨ib,0,AB⟩)))/\AZ [fb] w w':=by
 obtain⟨w2,hu,UH,hc2⟩:=Mp.update hf (DC LC) PY name (.pointer (AA ⟨ib,0,AB⟩));have hl:=(Mp.lookup hm (DC LC) I4 (z:=.map AB) Aq dir).1;rw[hg,Dx] at hl;have HM:=AP UH;have HC:=AP hc2;clear hm hf UH hc2 hg;go_enter AN4,Tryz.ntmps73;go_wp2
 go_end0
 exact⟨rfl,HM.out,HC.out⟩
theorem AAc(tb fb db nb:Nat)(m:List (ByteArray×AQ))(src dst:ByteArray)(w:AL)(hm:Mp w tb IZ m)(hg:BK m src=AA (.map (AA fb)))
  (hd:w.cell? ⟨db,0,AB⟩=AA (.string src)) (hn:w.cell? ⟨nb,0,AB⟩=AA (.string dst)) (_:db≠tb) (h2:nb≠tb):
  Au Ag 85 #[.map (AA tb),.pointer (AA ⟨db,0,AB⟩),.pointer (AA ⟨nb,0,AB⟩)] w λe w'=>e=.returned (.tuple #[])/\Mp w' tb IZ (Dq (JC m src) dst (.map (AA fb)))/\AZ [tb] w w':=by
 have hl:=(Mp.lookup hm (DC LC) I4 (z:=.map AB) Aq src).1;rw[hg,Dx] at hl;obtain⟨w2,hu,UH,hc2⟩:=Mp.del hm (ty:=0) (DC LC) I4 src 9;obtain⟨w3,hu3,ACm,hc3⟩:=Mp.update UH (DC LC) I4 dst (.map (AA fb));have hn2:=hc2.cell hn (by simpa using h2);have HM:=AP ACm;have HC:Hid (AZ [tb] w w3):=AP (hc2.trans hc3 (λx hx=>.inl hx));clear hm UH hc2 ACm hc3 hg;go_enter AN8,Tryz.ntmps85;go_wp2
 go_end0
 exact⟨rfl,HM.out,HC.out⟩
theorem ACn:Ety Ag 113 119 1 8 .nilFunc:=.mk' AQ7 Aq rfl Ar
theorem dG(X:FuncId)(cp:Array AQ)(hcf: ∀(p:Array AQ) (w:AL),(E5 X p).run Ag w=.ok (.enter X p) w)(b tb:Nat)(sf:Option Nat)(A Aw:Option Af)(n c nw cw:Nat)(q a:Int)(s:Nat)(xs:List AQ)(w:AL)(R:AL->Prop)(L:List Nat)
  (hcall:Au Ag X (#[.map (AA tb)]++cp) w λe w'=>e=.returned (.tuple #[])/\R w'/\AZ L w w')
  (hb:Bl w b 116 #[.map (AA tb),.map sf,.slice A n c,.slice Aw nw cw,.int .i64 q,.int .i64 a,.int .i64 (s:Int)]) (ho:Own w 119 1 A n c xs) (hbL:b∉L) (hoL: ∀x∈bo A,x∉L) (hn:n<=1073741824) (hs:s<=1073741824):
  Au Ag 71 #[.pointer (AA ⟨b,0,AB⟩),.func (.func X) #[] cp] w λe w'=>e=.returned (.int .i64 0)/\∃w1,R w1/\AZ L w w1/\AZ (b::bo A) w1 w'/\∃A' c',
   Bl w' b 116 #[.map (AA tb),.map sf,(.slice A' (n+1) c'),.slice Aw nw cw,.int .i64 q,.int .i64 a,.int .i64 ((s+1:Nat):Int)]/\Own w' 119 1 A' (n+1) c' (xs++[.func (.func X) #[] cp])/\∀x∈bo A',x∈bo A\/w1.heap.size<=x:=by
 have HC:=AP hcall;have HB:=AP hb;have HO:=AP ho;have h0:=hb.cell 0;simp at h0;(have hwt:IntKind.i64.wrap ((s:Int)+1)=((s+1:Nat):Int):=by rw[NZ];omega);clear hcall hb ho;go_enter AN2,Tryz.ntmps71;(go_wp2_with fail);refine HC.out.mono ?_;rintro e w1 ⟨rfl,hr,hc1⟩;have HR:=AP hr;have CZ:=AP hc1;have hb1:=HB.out.Aj hc1 hbL;have qI:=AP (HO.out.Aj hc1 hoL);have HB1:=AP hb1;have x2:=hb1.cell 2;simp at x2;clear hr hc1 hb1 h0;(go_wp2_with (at_builtin;refine EW rfl _ _ rfl ACn rfl (qI.out.Aj ((AZ.refl [] w1).alloc (.cells #[.func (.func X) #[] cp] 119)) Ew) rfl (Own.lit w1 119 1 #[.func (.func X) #[] cp] 1 Ar rfl).rd (by simp[Kz]) OH Aa ?_;intro A2 c2 w2 hown2 Pg KF _;have HCX:Hid (AZ (bo A) w1 w2):=AP ((((AZ.refl [] w1).alloc (.cells #[.func (.func X) #[] cp] 119)).nil _).trans Pg (λx hx=>.inl hx));have um:b∉bo A:=(λhm=>qI.out.GV HB1.out Ar b hm rfl);have HB2:=AP (HB1.out.Aj HCX.out um);have y2:=HB2.out.cell 2;have f2:=HB2.out.frozen 2;have HB3:=AP (HB2.out.FX 2 (.slice A2 (n+1) c2));have y6:=HB3.out.cell 6;have f6:=HB3.out.frozen 6;simp at y2 y6;have HO2:=AP hown2;have HN2:Hid (∀x∈bo A2,x∈bo A\/w1.heap.size<=x):=AP (λx hx=>(KF x hx).imp id (λh=>by have:=h.1;simp at this;omega));clear hown2 Pg KF um));go_ret;have hb2:=HO2.out.GV HB2.out Ar;have hb4:=HB3.out.FX 6 (.int .i64 ((s+1:Nat):Int));refine⟨rfl,w1,HR.out,CZ.out,?_,A2,c2,?_,?_,HN2.out⟩;exact ((HCX.out.mono (λx hx=>.inl (CO _ hx))).setCell (.inl AV) _).setCell (.inl AV) _;simpa using hb4;have hcs:AZ [b] w2 ((w2.setCell ⟨b,2,AB⟩ (.slice A2 (n+1) c2)).setCell ⟨b,6,AB⟩ (.int .i64 ((s+1:Nat):Int))):=((AZ.refl _ _).setCell (.inl AV) _).setCell (.inl AV) _;have q:=HO2.out.Aj hcs (λx hx hm=>hb2 x hx (by simpa using hm));simpa using q
section
variable {κ α β:Type} [DecidableEq κ]
theorem Yc(f:α->β)(t:List (κ×α))(k:κ)(v:α):Dq (t.map λp=>(p.1,f p.2)) k (f v)=(Dq t k v).map λp=>(p.1,f p.2):=by
 induction t with
 |nil=>rfl|cons p r ih=>
  rw[BN,Vm,Vm,ih];by_cases h:p.1=k<;>simp[h]
theorem gm(f:α->β)(t:List (κ×α))(k:κ):JC (t.map λp=>(p.1,f p.2)) k=(JC t k).map λp=>(p.1,f p.2):=by
 induction t with
 |nil=>rfl|cons p r ih=>
  rw[BN,Zu,Zu,ih];by_cases h:p.1=k<;>simp[h]
theorem J8{t:List (κ×α)}(hn:(t.map Ac).Nodup){k:κ}{v:α}{p:κ×α}:p∈Dq t k v↔p=(k,v)\/(p∈t/\p.1≠k):=by
 rw[(Vo hn k v).mem_iff,BD];unfold without;simp
theorem Pn{t:List (κ×α)}(hn:(t.map Ac).Nodup){k:κ}{p:κ×α}:p∈JC t k↔(p∈t/\p.1≠k):=by
 rw[NK hn];unfold without;simp
theorem Xo{t:List (κ×α)}(hn:(t.map Ac).Nodup)(k:κ):((JC t k).map Ac).Nodup:=by
 rw[NK hn];exact hn.sublist (List.filter_sublist.map _)
theorem Vs{t:List (κ×α)}{k:κ}{v:α}(h:BK t k=AA v):Dq t k v=t:=by
 induction t with
 |nil=>cases h|cons p r ih=>
  rw[FZ] at h;rw[Vm];by_cases hp:p.1=k
  ·rw[BZ hp] at h⊢;injection h with h;rw[<- hp,<- h]
  rw[BM hp] at h⊢;rw[ih h]
end
abbrev NM:=List (ByteArray×Nat×List (ByteArray×Nat))
def Ea (tb:Nat) (g:NM):List Nat:=tb::g.map λp=>p.2.1
def EG (ib:List Nat) (i:Nat):Nat:=ib.getD i 0
structure D8 (ib:List Nat) (g:NM) (T:Tr):Prop where
 top: ∀k,(BK g k).isSome=(BK T k).isSome
 sub: ∀k d F,BK g k=AA d->BK T k=AA F->∀n,BK d.2 n=(BK F n).map (EG ib)
theorem Po(g:NM):(FD g).map Ac=g.map Ac:=by unfold FD;rw[Eo];rfl
theorem SB(f:List (ByteArray×Nat)):(Iu f).map Ac=f.map Ac:=by unfold Iu;rw[Eo];rfl
theorem Tree.nodup{w:AL}{tb:Nat}{g:NM}(h:Tree w tb g):(g.map Ac).Nodup:=by rw[<- Po];exact h.top.nodup
theorem Tree.SC{g:NM}(h:Tree w tb g)(hp:p∈g):(p.2.2.map Ac).Nodup:=by rw[<- SB];exact (h.sub p hp).nodup
theorem Tree.lt{w:AL}{tb:Nat}{g:NM}(h:Tree w tb g): ∀x∈Ea tb g,x<w.heap.size:=by
 intro x hx;rcases BD.1 hx with rfl|hx;exact h.top.lt;obtain⟨p,hp,rfl⟩:=Bv.1 hx;exact (h.sub p hp).lt
theorem Tree.keep{g:NM}(h:Tree w tb g)(hc:AZ L w w')(hn: ∀x∈Ea tb g,x∉L):Tree w' tb g:=
 h.Aj hc (hn tb (by simp[Ea])) (λp hp=>hn _ (by simp only[Ea,BD,Bv];exact .inr ⟨p,hp,rfl⟩))
theorem D8.get{g:NM}(h:D8 ib g T){k:ByteArray}(hF:BK T k=AA F): ∃d,BK g k=AA d/\∀n,BK d.2 n=(BK F n).map (EG ib):=by
 have:=h.top k;rw[hF] at this
 cases hg:BK g k with|none=>rw[hg] at this;cases this|some d=>exact⟨d,rfl,h.sub k d F hg hF⟩
theorem D8.none{ib:List Nat}{g:NM}{T:Tr}(h:D8 ib g T){k:ByteArray}(hF:BK T k=AB):BK g k=AB:=by
 have:=h.top k;rw[hF] at this
 cases hg:BK g k with|none=>rfl|some d=>rw[hg] at this;cases this
theorem D8.Xm{g:NM}(h:D8 ib g T)(k n:ByteArray):((BK g k).bind λd=>BK d.2 n)=(BK (FO T k) n).map (EG ib):=by
 unfold FO
 cases hF:BK T k with|none=>rw[h.none hF];rfl|some F=>obtain⟨d,hd,hs⟩:=h.get hF;rw[hd];exact hs n
theorem D8.keys{g:NM}(h:D8 ib g T)(hn:(g.map Ac).Nodup)(hT:OI T):(g.map Ac).Perm (T.map Ac):=by
 rw[AFw hn hT.nodup];intro k;rw[<- IM,<- IM,h.top]
theorem gp(h: ∀n,BK f n=(BK F n).map (EG ib))(hn:(f.map Ac).Nodup)(hF:OI F):(f.map Ac).Perm (F.map Ac):=by
 rw[AFw hn hF.nodup];intro k;rw[<- IM,<- IM,h k];cases BK F k<;>rfl
theorem D8.put{g:NM}(h:D8 ib g T)(hn:(g.map Ac).Nodup)(hT: ∀k,BK T' k=if d=k then AA F else BK T k)
  (hf: ∀n,BK f n=(BK F n).map (EG ib)):D8 ib (Dq g d (fb,f)) T':=by
 refine⟨λk=>?_,λk e F' he hF'=>?_⟩
 ·rw[S9 hn,hT];by_cases hk:d=k;rw[BZ hk,BZ hk];rfl;rw[BM hk,BM hk];exact h.top k
 rw[S9 hn] at he;rw[hT] at hF';by_cases hk:d=k
 ·rw[BZ hk] at he hF';injection he with he;injection hF' with hF';rw[<- he,<- hF'];exact hf
 rw[BM hk] at he hF';exact h.sub k e F' he hF'
theorem D8.del{g:NM}(h:D8 ib g T)(hn:(g.map Ac).Nodup)(hT: ∀k,BK T' k=if d=k then Option.none else BK T k):D8 ib (JC g d) T':=by
 refine⟨λk=>?_,λk e F' he hF'=>?_⟩
 ·rw[Zx hn,hT];by_cases hk:d=k;rw[BZ hk,BZ hk];rfl;rw[BM hk,BM hk];exact h.top k
 rw[Zx hn] at he;rw[hT] at hF';by_cases hk:d=k;rw[BZ hk] at he;cases he;rw[BM hk] at he hF';exact h.sub k e F' he hF'
theorem Tree.put{g:NM}(hn:(g.map Ac).Nodup)(hs: ∀p∈g,Mp w p.2.1 IZ (Iu p.2.2))(ha:(Ea tb g).Nodup)(hc:AZ L w w')
  (htop:Mp w' tb IZ (Dq (FD g) d (.map (AA fb)))) (hf:Mp w' fb IZ (Iu f)) (h1:fb≠tb) (h2: ∀p∈g,p.1≠d->p.2.1≠fb) (hL: ∀p∈g,p.1≠d->p.2.1∉L):Tree w' tb (Dq g d (fb,f)):=by
 refine⟨?_,λp hp=>?_,?_⟩
 ·have:=Yc (λx:Nat×List (ByteArray×Nat)=>Value.map (AA x.1)) g d (fb,f);unfold FD at htop⊢;rw[<- this];exact htop
 ·rcases (J8 hn).1 hp with rfl|⟨hp,hd⟩;exact hf;exact (hs p hp).Aj hc (hL p hp hd)
 have hp:=((Vo hn d (fb,f)).map λp=>p.2.1).cons tb;refine hp.nodup_iff.2 ?_;have ha':=II.1 ha;rw[BN,II,II];have hsub:((without g d).map λp=>p.2.1).Sublist (g.map λp=>p.2.1):=List.filter_sublist.map _;refine⟨?_,?_,ha'.2.sublist hsub⟩
 ·rw[BD,not_or];exact⟨λe=>h1 e.symm,λhm=>ha'.1 (hsub.subset hm)⟩
 intro hm;obtain⟨p,hp,e⟩:=Bv.1 hm;unfold without at hp;simp only[ZV,decide_eq_true_eq] at hp;exact h2 p hp.1 hp.2 e
theorem Tree.del{g:NM}(h:Tree w tb g)(hc:AZ [tb] w w')(htop:Mp w' tb IZ (JC (FD g) d)):Tree w' tb (JC g d):=by
 have hn:=h.nodup;refine⟨?_,λp hp=>?_,?_⟩
 ·have:=gm (λx:Nat×List (ByteArray×Nat)=>Value.map (AA x.1)) g d;unfold FD at htop⊢;rw[<- this];exact htop
 ·have hp:=((Pn hn).1 hp).1;refine (h.sub p hp).Aj hc ?_;have:=(II.1 h.apart).1;intro e;simp only[CJ] at e;exact this (Bv.2 ⟨p,hp,e⟩)
 rw[NK hn];have hsub:((without g d).map λp=>p.2.1).Sublist (g.map λp=>p.2.1):=List.filter_sublist.map _;exact h.apart.sublist (hsub.cons_cons tb)
theorem Tree.L8{g:NM}(h:Tree w tb g)(hp:p∈g):p.2.1≠tb:=λe=>(II.1 h.apart).1 (Bv.2 ⟨p,hp,e⟩)
theorem AFL{α β:Type}{l:List α}{f:α->β}(hn:(l.map f).Nodup){a b:α}(ha:a∈l)(hb:b∈l)(h:f a=f b):a=b:=by
 induction l with
 |nil=>simp at ha|cons x r ih=>
  rw[BN,II] at hn;rcases BD.1 ha with ha1|ha1
  ·rcases BD.1 hb with hb1|hb1;rw[ha1,hb1];exact (hn.1 (Bv.2 ⟨b,hb1,by rw[<- h,ha1]⟩)).elim
  rcases BD.1 hb with hb1|hb1;exact (hn.1 (Bv.2 ⟨a,ha1,by rw[h,hb1]⟩)).elim;exact ih hn.2 ha1 hb1
theorem Tree.lW{g:NM}(h:Tree w tb g){q:ByteArray×Nat×List (ByteArray×Nat)}(hp:p∈g)(hq:q∈g)(hne:p.1≠q.1):p.2.1≠q.2.1:=by
 intro e;have:=AFL (II.1 h.apart).2 hp hq e;exact hne (by rw[this])
def TD (w:AL) (tb:Nat) (g:NM) (ib:List Nat) (T':Tr) (w':AL):Prop:=
 (∃g',Tree w' tb g'/\D8 ib g' T'/\∀x∈Ea tb g',x∈Ea tb g\/w.heap.size<=x)/\AZ (Ea tb g) w w'
section
variable {w:AL} {tb:Nat} {g:NM} {ib:List Nat} {T:Tr} {m:Nat}
theorem OC(hn:(g.map Ac).Nodup)(h:fb∈Ea tb g\/B<=fb): ∀x∈Ea tb (Dq g d (fb,f)),x∈Ea tb g\/B<=x:=by
 intro x hx;unfold Ea at hx h⊢;rcases BD.1 hx with rfl|hx;left;simp;obtain⟨p,hp,rfl⟩:=Bv.1 hx;rcases (J8 hn).1 hp with rfl|⟨hp,hd⟩;exact h;left;exact CO _ (Bv.2 ⟨p,hp,rfl⟩)
theorem Jc(hp:p∈g):p.2.1∈Ea tb g:=CO _ (Bv.2 ⟨p,hp,rfl⟩)
theorem xC(ht:Tree w tb g)(hi:D8 ib g T)(hd:BK T d=AB)(hk:w.cell? ⟨k,0,AB⟩=AA (.string d)):
  Au Ag 72 #[.map (AA tb),.pointer (AA ⟨k,0,AB⟩)] w λe w'=>e=.returned (.tuple #[])/\TD w tb g ib (EF.on T (.Cc d)) w':=by
 refine (ACk tb k (FD g) d w ht.top hk).mono ?_;rintro e w' ⟨rfl,fb,hge,hfb,htop,hc⟩;(have h2: ∀p∈g,p.2.1≠fb:=λp hp e=>by have:=(ht.sub p hp).lt;omega);have htl:=ht.top.lt
 refine⟨rfl,⟨Dq g d (fb,[]),Tree.put ht.nodup ht.sub ht.apart hc htop (by simpa[Iu] using hfb) Aa (λp hp _=>h2 p hp) (λp hp _=>by simpa using ht.L8 hp),
  hi.put ht.nodup (λk=>Qk (Eh.1 hd) _ k) (λn=>rfl),OC ht.nodup (.inr hge)⟩,hc.mono (by simp[Ea])⟩
theorem xE(ht:Tree w tb g)(hi:D8 ib g T)(hk:w.cell? ⟨k,0,AB⟩=AA (.string d)):
  Au Ag 130 #[.map (AA tb),.pointer (AA ⟨k,0,AB⟩)] w λe w'=>e=.returned (.tuple #[])/\TD w tb g ib (EF.on T (.rmdir d)) w':=by
 refine (ACl tb k (FD g) d w ht.top hk).mono ?_;rintro e w' ⟨rfl,htop,hc⟩;refine⟨rfl,⟨JC g d,ht.del hc htop,hi.del ht.nodup (λk=>NL T d k),λx hx=>.inl ?_⟩,hc.mono (by simp[Ea])⟩;rcases BD.1 hx with rfl|hx;simp[Ea];obtain⟨p,hp,rfl⟩:=Bv.1 hx;exact Jc ((Pn ht.nodup).1 hp).1
theorem FP(h:BK T d=AA F):FO T d=F:=by unfold FO;rw[h];rfl
theorem TE(k:ByteArray):BK (Dh d F (without T d)) k=if d=k then AA F else BK T k:=by
 rw[Qk (Ju d),NL];by_cases h:d=k<;>simp[h]
theorem qJ(ht:Tree w tb g)(hi:D8 ib g T)(_:Val m T)(hok:EF.ok m T (.create d n i))(hx:w.cell? ⟨x,0,AB⟩=AA (.pointer (AA ⟨EG ib i,0,AB⟩)))
  (hk:w.cell? ⟨k,0,AB⟩=AA (.string d)) (hj:w.cell? ⟨j,0,AB⟩=AA (.string n)):
  Au Ag 73 #[.map (AA tb),.pointer (AA ⟨x,0,AB⟩),.pointer (AA ⟨k,0,AB⟩),.pointer (AA ⟨j,0,AB⟩)] w λe w'=>e=.returned (.tuple #[])/\TD w tb g ib (EF.on T (.create d n i)) w':=by
 obtain⟨_,_,F,hF,hnone⟩:=hok;obtain⟨e,he,hs⟩:=hi.get hF;have hmem:=CQ he;refine (AAb tb e.1 x k j (EG ib i) (FD g) (Iu e.2) d n w ht.top (ht.sub _ hmem) (by rw[Ez,he];rfl) hx hk hj).mono ?_;rintro r w' ⟨rfl,hfb,hc⟩;have hfv:Dq (Iu e.2) n (.pointer (AA ⟨EG ib i,0,AB⟩))=Iu (Dq e.2 n (EG ib i)):=Yc (λi:Nat=>QW (AA ⟨i,0,AB⟩)) e.2 n (EG ib i);rw[hfv] at hfb;have hL: ∀p∈g,p.1≠d->p.2.1∉[e.1]:=λp hp hne=>by simpa using ht.lW hp hmem hne
 have htop:Mp w' tb IZ (Dq (FD g) d (.map (AA e.1))):=by
  rw[Vs (by rw[Ez,he];rfl)];exact ht.top.Aj hc (by simpa using (ht.L8 hmem).symm)
 refine⟨rfl,⟨Dq g d (e.1,Dq e.2 n (EG ib i)),Tree.put ht.nodup ht.sub ht.apart hc htop hfb (ht.L8 hmem) (λp hp hne=>by simpa using hL p hp hne) hL,?_,OC ht.nodup (.inl (Jc hmem))⟩,hc.mono (λy hy=>.inl (by simp only[CJ] at hy;subst hy;exact Jc hmem))⟩;refine hi.put ht.nodup (λk=>TE k) (λn'=>?_);rw[FP hF,S9 (ht.SC hmem),Qk (Eh.1 hnone),hs n'];by_cases hnn:n=n'<;>simp[hnn]
theorem qK(ht:Tree w tb g)(hi:D8 ib g T)(_:Val m T)(hok:EF.ok m T (.remove d n))
  (hk:w.cell? ⟨k,0,AB⟩=AA (.string d)) (hj:w.cell? ⟨j,0,AB⟩=AA (.string n)):
  Au Ag 129 #[.map (AA tb),.pointer (AA ⟨k,0,AB⟩),.pointer (AA ⟨j,0,AB⟩)] w λe w'=>e=.returned (.tuple #[])/\TD w tb g ib (EF.on T (.remove d n)) w':=by
 obtain⟨F,hF⟩:=hok;obtain⟨e,he,hs⟩:=hi.get hF;have hmem:=CQ he;refine (AAa tb e.1 k j (FD g) (Iu e.2) d n w ht.top (ht.sub _ hmem) (by rw[Ez,he];rfl) hk hj).mono ?_;rintro r w' ⟨rfl,hfb,hc⟩;have hfv:JC (Iu e.2) n=Iu (JC e.2 n):=gm (λi:Nat=>QW (AA ⟨i,0,AB⟩)) e.2 n;rw[hfv] at hfb;have hL: ∀p∈g,p.1≠d->p.2.1∉[e.1]:=λp hp hne=>by simpa using ht.lW hp hmem hne
 have htop:Mp w' tb IZ (Dq (FD g) d (.map (AA e.1))):=by
  rw[Vs (by rw[Ez,he];rfl)];exact ht.top.Aj hc (by simpa using (ht.L8 hmem).symm)
 refine⟨rfl,⟨Dq g d (e.1,JC e.2 n),Tree.put ht.nodup ht.sub ht.apart hc htop hfb (ht.L8 hmem) (λp hp hne=>by simpa using hL p hp hne) hL,?_,OC ht.nodup (.inl (Jc hmem))⟩,hc.mono (λy hy=>.inl (by simp only[CJ] at hy;subst hy;exact Jc hmem))⟩;refine hi.put ht.nodup (λk=>TE k) (λn'=>?_);rw[FP hF,Zx (ht.SC hmem),NL,hs n'];by_cases hnn:n=n'<;>simp[hnn]
theorem qL{a b:ByteArray}(ht:Tree w tb g)(hi:D8 ib g T)(hok:EF.ok m T (.rename a b))
  (hk:w.cell? ⟨k,0,AB⟩=AA (.string a)) (hj:w.cell? ⟨j,0,AB⟩=AA (.string b)) (h1:k≠tb) (h2:j≠tb):
  Au Ag 85 #[.map (AA tb),.pointer (AA ⟨k,0,AB⟩),.pointer (AA ⟨j,0,AB⟩)] w λe w'=>e=.returned (.tuple #[])/\TD w tb g ib (EF.on T (.rename a b)) w':=by
 obtain⟨_,F,hF⟩:=hok;obtain⟨e,he,hs⟩:=hi.get hF;have hmem:=CQ he;refine (AAc tb e.1 k j (FD g) a b w ht.top (by rw[Ez,he];rfl) hk hj h1 h2).mono ?_;rintro r w' ⟨rfl,htop,hc⟩;have hdm:JC (FD g) a=FD (JC g a):=gm (λx:Nat×List (ByteArray×Nat)=>Value.map (AA x.1)) g a;rw[hdm] at htop;have hn:=ht.nodup;have hnt: ∀p∈JC g a,p.2.1∉[tb]:=λp hp=>by simpa using ht.L8 ((Pn hn).1 hp).1
 have hap:(Ea tb (JC g a)).Nodup:=by
  rw[NK hn];have hsub:((without g a).map λp=>p.2.1).Sublist (g.map λp=>p.2.1):=List.filter_sublist.map _;exact ht.apart.sublist (hsub.cons_cons tb)
 refine⟨rfl,⟨Dq (JC g a) b (e.1,e.2),Tree.put (Xo hn a) (λp hp=>ht.sub p ((Pn hn).1 hp).1) hap hc htop ((ht.sub _ hmem).Aj hc (by simpa using ht.L8 hmem)) (ht.L8 hmem)
  (λp hp _=>ht.lW ((Pn hn).1 hp).1 hmem ((Pn hn).1 hp).2) (λp hp _=>hnt p hp),?_,λx hx=>.inl ?_⟩,hc.mono (by simp[Ea])⟩
 ·refine D8.put (T:=without T a) (F:=F) (hi.del hn (λk=>NL T a k)) (Xo hn a) (λk=>?_) hs;simp only[EF.on,FP hF];exact TE k
 rcases BD.1 hx with rfl|hx;simp[Ea];obtain⟨p,hp,rfl⟩:=Bv.1 hx;rcases (J8 (Xo hn a)).1 hp with rfl|⟨hp,_⟩;exact Jc (p:=(a,e)) hmem;exact Jc ((Pn hn).1 hp).1
end
def Sep (Ps:List (List Nat)):Prop:=Ps.Pairwise λa b=>∀x∈a,x∉b
structure Lay (w:AL) (Ps:List (List Nat)):Prop where
 sep:Sep Ps
 lt: ∀P∈Ps,∀x∈P,x<w.heap.size
theorem Sep.ne{Ps:List (List Nat)}(h:Sep Ps){Q:List Nat}(hi:Ps[i]? =AA P)(hj:Ps[j]? =AA Q)(hij:i≠j): ∀x∈P,x∉Q:=by
 have hil:=(CP.1 hi);have hjl:=(CP.1 hj);obtain⟨hi1,rfl⟩:=hil;obtain⟨hj1,rfl⟩:=hjl;intro x hx hq;rcases Nat.lt_or_gt_of_ne hij with h1|h1;exact (YL.1 h i j hi1 hj1 h1) x hx hq;exact (YL.1 h j i hj1 hi1 h1) x hq hx
theorem Lay.ne{w:AL}{Ps:List (List Nat)}(h:Lay w Ps){i j:Nat}{P Q:List Nat}(hi:Ps[i]? =AA P)(hj:Ps[j]? =AA Q)(hij:i≠j): ∀x∈P,x∉Q:=h.sep.ne hi hj hij
theorem Lay.mono{Ps:List (List Nat)}(h:Lay w Ps)(hs:w.heap.size<=w'.heap.size):Lay w' Ps:=⟨h.sep,λP hP x hx=>EY (h.lt P hP x hx) hs⟩
theorem Lay.FX{Ps:List (List Nat)}(h:Lay w Ps){P':List Nat}(hi:Ps[i]? =AA P)(hn: ∀x∈P',x∈P\/w.heap.size<=x)(hl: ∀x∈P',x<w'.heap.size)(hs:w.heap.size<=w'.heap.size):Lay w' (Ps.set i P'):=by
 have hil:i<Ps.length:=(CP.1 hi).1;refine⟨?_,λQ hQ x hx=>?_⟩
 ·unfold Sep;rw[YL];intro a b ha hb hab;(have ha':a<Ps.length:=by simpa using ha);(have hb':b<Ps.length:=by simpa using hb);have hlt: ∀(c:Nat) (hc:c<Ps.length),∀x∈Ps[c],x<w.heap.size:=λc hc x hx=>h.lt _ (List.getElem_mem hc) x hx;rw[List.getElem_set,List.getElem_set];intro x hx hxb;by_cases h1:i=a
  ·rw[BZ h1] at hx;rw[BM Aa] at hxb;rcases hn x hx with h2|h2
   ·exact h.ne hi (CB hb') Aa x h2 hxb
   have:=hlt b hb' x hxb;omega
  rw[BM h1] at hx;by_cases h3:i=b
  ·rw[BZ h3] at hxb;rcases hn x hxb with h2|h2
   ·exact h.ne hi (CB ha') Aa x h2 hx
   have:=hlt a ha' x hx;omega
  rw[BM h3] at hxb;exact (YL.1 h.sep a b ha' hb' hab) x hx hxb
 rcases kz hQ with h1|rfl;exact EY (h.lt Q h1 x hx) hs;exact hl x hx
theorem Lay.snoc{Ps:List (List Nat)}(h:Lay w Ps)(hn: ∀x∈P,w.heap.size<=x)(hl: ∀x∈P,x<w'.heap.size)(hs:w.heap.size<=w'.heap.size):Lay w' (Ps++[P]):=by
 refine⟨?_,λQ hQ x hx=>?_⟩
 ·unfold Sep;rw[aX];refine⟨h.sep,AV,λQ hQ R hR x hx hr=>?_⟩;simp only[CJ] at hR;subst hR;have h1:=hn x hr;have h2:=h.lt Q hQ x hx;omega
 rcases Bd.1 hQ with h1|h1;exact EY (h.lt Q h1 x hx) hs;simp only[CJ] at h1;subst h1;exact hl x hx
def ACo (w:AL) (ib K:List Nat):EF->AQ->Prop
 | .Cc d,v=>∃k,v=.func (.func 72) #[] #[.pointer (AA ⟨k,0,AB⟩)]/\k∈K/\w.cell? ⟨k,0,AB⟩=AA (.string d)| .rmdir d,v=>∃k,v=.func (.func 130) #[] #[.pointer (AA ⟨k,0,AB⟩)]/\k∈K/\w.cell? ⟨k,0,AB⟩=AA (.string d)
 | .create d n i,v=>∃x k j,v=.func (.func 73) #[] #[.pointer (AA ⟨x,0,AB⟩),.pointer (AA ⟨k,0,AB⟩),.pointer (AA ⟨j,0,AB⟩)]/\x∈K/\k∈K/\j∈K/\
   w.cell? ⟨x,0,AB⟩=AA (.pointer (AA ⟨EG ib i,0,AB⟩))/\w.cell? ⟨k,0,AB⟩=AA (.string d)/\w.cell? ⟨j,0,AB⟩=AA (.string n)/\i<ib.length
 | .remove d n,v=>∃k j,v=.func (.func 129) #[] #[.pointer (AA ⟨k,0,AB⟩),.pointer (AA ⟨j,0,AB⟩)]/\k∈K/\j∈K/\w.cell? ⟨k,0,AB⟩=AA (.string d)/\w.cell? ⟨j,0,AB⟩=AA (.string n)| .rename d n,v=>∃k j,v=.func (.func 85) #[] #[.pointer (AA ⟨k,0,AB⟩),.pointer (AA ⟨j,0,AB⟩)]/\k∈K/\j∈K/\w.cell? ⟨k,0,AB⟩=AA (.string d)/\w.cell? ⟨j,0,AB⟩=AA (.string n)
theorem ACo.keep{ib' K K':List Nat}{v:AQ}(h:ACo w ib K c v)(hc:AZ L w w')(hL: ∀x∈K,x∉L)(hK: ∀x∈K,x∈K')(hib: ∀i<ib.length,EG ib' i=EG ib i)(hl:ib.length<=ib'.length):ACo w' ib' K' c v:=by
 cases c with
 |Cc d=>obtain⟨k,h1,h2,h3⟩:=h;exact⟨k,h1,hK k h2,hc.cell h3 (hL k h2)⟩
 |rmdir d=>obtain⟨k,h1,h2,h3⟩:=h;exact⟨k,h1,hK k h2,hc.cell h3 (hL k h2)⟩
 |create d n i=>
  obtain⟨x,k,j,h1,h2,h3,h4,h5,h6,h7,h8⟩:=h;exact⟨x,k,j,h1,hK x h2,hK k h3,hK j h4,by rw[hib i h8];exact hc.cell h5 (hL x h2),hc.cell h6 (hL k h3),hc.cell h7 (hL j h4),Aa⟩
 |remove d n=>obtain⟨k,j,h1,h2,h3,h4,h5⟩:=h;exact⟨k,j,h1,hK k h2,hK j h3,hc.cell h4 (hL k h2),hc.cell h5 (hL j h3)⟩
 |rename d n=>obtain⟨k,j,h1,h2,h3,h4,h5⟩:=h;exact⟨k,j,h1,hK k h2,hK j h3,hc.cell h4 (hL k h2),hc.cell h5 (hL j h3)⟩
structure Bi where
 b:Nat
 t1:Nat
 t2:Nat
 g1:NM
 g2:NM
 A:Option Af
 c:Nat
 vs:List AQ
 Aw:Option Af
 cw:Nat
 K:List Nat
 ib:List Nat
 sg:List Nat
 Ls:List (List Nat)
def Bi.parts (G:Bi):List (List Nat):=[G.b]::Ea G.t1 G.g1::Ea G.t2 G.g2::bo G.A::bo G.Aw::G.K::G.Ls
def Bi.all (G:Bi):List Nat:=G.parts.flatten
def qM (ib:List Nat) (i:Nat):AQ:=.pointer (AA ⟨EG ib i,0,AB⟩)
def xG (w:AL) (x g:Nat) (L:List Nat) (f:Ee):Prop:=Bl w x 126 #[.pointer (AA ⟨g,0,AB⟩)]/\Wn w g L f.1 f.2
structure EH (w:AL) (G:Bi) (S:St):Prop where
 blk:Bl w G.b 116 #[.map (AA G.t1),.map (AA G.t2),.slice G.A S.ED.length G.c,.slice G.Aw S.wr.length G.cw,.int .i64 S.BG,.int .i64 S.stop,.int .i64 (S.steps:Int)]
 Fg:Tree w G.t1 G.g1
 MB:D8 G.ib G.g1 S.seen
 tr2:Tree w G.t2 G.g2
 is2:D8 G.ib G.g2 S.safe
 own:Own w 119 1 G.A S.ED.length G.c G.vs
 chn: ∀(i:Nat) (c:EF) (v:AQ),S.ED[i]? =AA c->G.vs[i]? =AA v->ACo w G.ib G.K c v
 gq:Own w 121 1 G.Aw S.wr.length G.cw (S.wr.map (qM G.ib))
 Qx:G.ib.length=S.files.length
 Wp:G.sg.length=S.files.length
 Rk:G.Ls.length=S.files.length
 Zy:G.ib.Nodup
 Wq: ∀x∈G.ib,x∈G.K
 ino: ∀(i x g:Nat) (L:List Nat) (f:Ee),G.ib[i]? =AA x->G.sg[i]? =AA g->G.Ls[i]? =AA L->S.files[i]? =AA f->xG w x g L f
 lay:Lay w G.parts
theorem EH.vsl{G:Bi}(h:EH w G S):G.vs.length=S.ED.length:=by have:=h.own.1;omega
theorem Bi.Fh{G:Bi}(hi:G.parts[i]? =AA P)(hx:x∈P):x∈G.all:=KN.2 ⟨P,Bq hi,hx⟩
theorem xG.keep{g:Nat}{M:List Nat}{f:Ee}(h:xG w x g L f)(hc:AZ M w w')(h1:x∉M)(h2: ∀k∈L,k∉M):xG w' x g L f:=
 ⟨h.1.Aj hc h1,h.2.Aj hc h2⟩
theorem EH.at_{G:Bi}(h:EH w G S){f:Ee}(hf:S.files[i]? =AA f): ∃x g L,G.ib[i]? =AA x/\G.sg[i]? =AA g/\G.Ls[i]? =AA L/\xG w x g L f:=by
 have hl:=(CP.1 hf).1;have h1:=h.Qx;have h2:=h.Wp;have h3:=h.Rk;exact⟨_,_,_,CB Aa,CB Aa,CB Aa,h.ino i _ _ _ f (CB Aa) (CB Aa) (CB Aa) hf⟩
theorem EH.lt{w:AL}{G:Bi}{S:St}(h:EH w G S): ∀x∈G.all,x<w.heap.size:=by
 intro x hx;obtain⟨P,hP,hx⟩:=KN.1 hx;exact h.lay.lt P hP x hx
theorem EH.keep{w w':AL}{G:Bi}{S:St}{L:List Nat}(h:EH w G S)(hc:AZ L w w')(hn: ∀x∈G.all,x∉L):EH w' G S:=by
 have hm: ∀(i:Nat) (P:List Nat),G.parts[i]? =AA P->∀x∈P,x∉L:=λi P hi x hx=>hn x (Bi.Fh hi hx)
 refine⟨h.blk.Aj hc (hm 0 _ rfl _ AV),h.Fg.keep hc (hm 1 _ rfl),h.MB,h.tr2.keep hc (hm 2 _ rfl),h.is2,h.own.Aj hc (hm 3 _ rfl),λi c v h1 h2=>(h.chn i c v h1 h2).keep hc (hm 5 _ rfl) (λ_ h=>h) (λ_ _=>rfl) (Bc _),
  h.gq.Aj hc (hm 4 _ rfl),h.Qx,h.Wp,h.Rk,h.Zy,h.Wq,λi x g M f h1 h2 h3 h4=>(h.ino i x g M f h1 h2 h3 h4).keep hc (hm 5 _ rfl x (h.Wq x (Bq h1))) (hm (i+6) M (by simpa[Bi.parts] using h3)),h.lay.mono hc.size⟩
theorem EH.CX{G:Bi}(h:EH w G S)(hc:AZ [] w w'):EH w' G S:=h.keep hc Ew
def DK (w:AL) (G:Bi) (S':St) (w':AL):Prop:=∃G',EH w' G' S'/\G'.b=G.b/\(∀x∈G'.all,x∈G.all\/w.heap.size<=x)/\AZ G.all w w'
theorem DK.same{G:Bi}(h:EH w G S)(hc:AZ [] w w'):DK w G S w':=⟨G,h.CX hc,rfl,λ_ hx=>.inl hx,hc.nil _⟩
theorem AGe{G:Bi}(h:EH w G S)(there:Bool)(ns:List ByteArray):Qj S.stop S.steps (FD G.g1) there ns=S.ask there ns:=by
 have: ∀k,(BK (FD G.g1) k).isNone=(BK S.seen k).isNone:=λk=>by
  have:=h.MB.top k;rw[Ez];cases h1:BK G.g1 k<;>cases h2:BK S.seen k<;>rw[h1,h2] at this<;>first|rfl|cases this
 unfold Qj St.ask St.down;rw[this]
theorem find_eq{G:Bi}(h:EH w G S)(d n:ByteArray):Vq S.stop S.steps G.g1 d n=((S.Ov d n).1.map (EG G.ib),(S.Ov d n).2):=by
 unfold Vq St.Ov;rw[AGe h];split;rfl;rw[h.MB.Xm d n];cases BK (FO S.seen d) n<;>rfl
theorem Vt{G:Bi}(h:EH w G S)(there:Bool)(A:Option Af)(n c:Nat)(ns:List ByteArray)(hr:Rd w 1 A n c (Pm ns))(hn:n<=1073741824)(ht:there=true->0<n):
  Au Ag 70 #[.pointer (AA ⟨G.b,0,AB⟩),.bool there,.slice A n c] w λe w'=>e=.returned (.int .i64 (S.ask there ns))/\AZ [] w w':=by
 rw[<- AGe h];exact ACj G.b G.t1 S.stop S.steps (FD G.g1) there A n c ns w (by simpa using h.blk.cell 0) (by simpa using h.blk.cell 5) (by simpa using h.blk.cell 6) h.Fg.top qG hr hn ht
theorem qN{G:Bi}(h:EH w G S)(d n:ByteArray):
  Au Ag 81 #[.pointer (AA ⟨G.b,0,AB⟩),.string d,.string n] w λe w'=>e=.returned (Xl ((S.Ov d n).1.map (EG G.ib),(S.Ov d n).2))/\AZ [] w w':=by
 rw[<- find_eq h];exact AHq G.b G.t1 S.stop S.steps G.g1 d n w (by simpa using h.blk.cell 0) (by simpa using h.blk.cell 5) (by simpa using h.blk.cell 6) h.Fg
theorem ACp{G:Bi}(h:EH w G S):
  Au Ag 61 #[.pointer (AA ⟨G.b,0,AB⟩)] w λe w'=>e=.returned (.bool S.down)/\AZ [] w w':=
 xB G.b S.stop S.steps w (by simpa using h.blk.cell 5) (by simpa using h.blk.cell 6)
theorem EH.xH{G:Bi}(h:EH w G S)(hc:AZ [] w w1)(hx:w.heap.size<=x)(hx1:x<w1.heap.size):EH w1 {G with K:=x::G.K} S:=by
 have h1:=h.CX hc;refine⟨h1.blk,h1.Fg,h1.MB,h1.tr2,h1.is2,h1.own,λi c v a b=>(h1.chn i c v a b).keep (AZ.refl [] w1) Ew (λ_ hm=>CO _ hm) (λ_ _=>rfl) (Bc _),h1.gq,h1.Qx,h1.Wp,h1.Rk,h1.Zy,λy hy=>CO _ (h1.Wq y hy),h1.ino,?_⟩
 exact h.lay.FX (i:=5) (P':=x::G.K) rfl (λy hy=>by rcases BD.1 hy with rfl|hy;exact .inr hx;exact .inl hy) (λy hy=>by
  rcases BD.1 hy with rfl|hy;exact hx1
  exact h1.lay.lt G.K (Bq (i:=5) rfl) y hy) hc.size
theorem dH(hi:i<ib.length):EG (ib++[x]) i=EG ib i:=by
 unfold EG;rw[Gj,Gj,Nb hi]
theorem ACq(ib:List Nat)(x:Nat):EG (ib++[x]) ib.length=x:=by
 unfold EG;rw[Gj,Gy (Bc _)];simp
theorem AAd(h:ib[i]? =AA x):EG ib i=x:=by
 unfold EG;rw[Gj,h];rfl
theorem D8.grow{g:NM}{m:Nat}(h:D8 ib g T)(hv:Val m T)(hm:ib.length=m):D8 (ib++[x]) g T:=
 ⟨h.top,λk d F hd hF n=>by
  rw[h.sub k d F hd hF n]
  cases hn:BK F n with
  |none=>rfl|some i=>
   have:=hv.ids _ (CQ hF) _ (CQ hn);simp only[Fq]
   rw[dH (by simpa[hm] using this)]⟩
theorem EH.dI{w2:AL}{G:Bi}(h:EH w G S)(hi:Inv B S)(hc1:AZ [] w w1){g:Nat}{f:List Int}(hL: ∀k∈L,w.heap.size<=k)(hs:Wn w1 g L f [])(hc2:AZ [] w1 w2)
  {x:Nat} (hx:w1.heap.size<=x) (hb:Bl w2 x 126 #[.pointer (AA ⟨g,0,AB⟩)]):
  EH w2 {G with K:=x::G.K,ib:=G.ib++[x],sg:=G.sg++[g],Ls:=G.Ls++[L]} {S with files:=S.files++[(f,[])]}:=by
 have h2:=h.CX (hc1.Ah hc2);have hxl:=hb.lt;refine⟨h2.blk,h2.Fg,h2.MB.grow hi.val h.Qx,h2.tr2,h2.is2.grow hi.safe h.Qx,h2.own,λi c v a b=>(h2.chn i c v a b).keep (AZ.refl [] w2) Ew (λ_ hm=>CO _ hm) (λi hi=>dH hi) AV,?_,by simp[h.Qx],by simp[h.Wp],by simp[h.Rk],?_,?_,?_,?_⟩
 ·have e:S.wr.map (qM (G.ib++[x]))=S.wr.map (qM G.ib):=Hu λi hm=>by
   unfold qM;rw[dH (by rw[h.Qx];exact hi.wr i hm)]
  show Own w2 121 1 G.Aw S.wr.length G.cw (S.wr.map (qM (G.ib++[x])));rw[e];exact h2.gq
 ·show (G.ib++[x]).Nodup;rw[QD];refine⟨h.Zy,AV,λa ha b hb=>?_⟩;simp only[CJ] at hb;subst hb;have:=h.lay.lt G.K (Bq (i:=5) rfl) a (h.Wq a ha);have:=hc1.size;omega
 ·intro y hy;rcases Bd.1 hy with hy|hy;exact CO _ (h.Wq y hy);simp only[CJ] at hy;subst hy;simp
 ·intro i y gg M ff e1 e2 e3 e4;have l1:=h.Qx;have l2:=h.Wp;have l3:=h.Rk;by_cases hil:i<S.files.length
  ·simp only at e1 e2 e3 e4;rw[Nb Aa] at e1 e2 e3 e4;exact h2.ino i y gg M ff e1 e2 e3 e4
  have hie:i=S.files.length:=by
   have:=(CP.1 e4).1;simp at this;omega
  subst hie;simp only at e1 e2 e3 e4;rw[Gy Aa,l1,Jn] at e1;rw[Gy Aa,l2,Jn] at e2;rw[Gy Aa,l3,Jn] at e3;rw[Gy Aa,Jn] at e4;simp at e1 e2 e3 e4;subst e1;subst e2;subst e3;subst e4;exact⟨hb,hs.Aj hc2 Ew⟩
 have h3:=h.lay.snoc (w':=w1) hL hs.lt hc1.size
 have h4:=h3.FX (w':=w2) (i:=5) (P:=G.K) (P':=x::G.K) rfl (λy hy=>by rcases BD.1 hy with rfl|hy;exact .inr hx;exact .inl hy) (λy hy=>by
  rcases BD.1 hy with rfl|hy;exact hxl
  exact h2.lay.lt G.K (Bq (i:=5) rfl) y hy) hc2.size
 exact h4
theorem EH.did{G:Bi}{v:AQ}{A':Option Af}{c':Nat}(h:EH w G S)(hv:ACo w G.ib G.K c v)(hcl:TD w G.t1 G.g1 G.ib (c.on S.seen) w1)(hc1:AZ (G.b::bo G.A) w1 w')
  (hb:Bl w' G.b 116 #[.map (AA G.t1),.map (AA G.t2),.slice A' (S.ED.length+1) c',.slice G.Aw S.wr.length G.cw,.int .i64 S.BG,.int .i64 S.stop,.int .i64 ((S.steps+1:Nat):Int)])
  (ho:Own w' 119 1 A' (S.ED.length+1) c' (G.vs++[v])) (hA: ∀x∈bo A',x∈bo G.A\/w1.heap.size<=x):DK w G (S.make c) w':=by
 obtain⟨⟨g',ht',hi',hsub⟩,hct⟩:=hcl;have hm: ∀(i:Nat) (P:List Nat),G.parts[i]? =AA P->i≠1->∀x∈P,x∉Ea G.t1 G.g1:=λi P hi hne x hx=>h.lay.ne hi (j:=1) rfl hne x hx
 have hm2: ∀(i:Nat) (P:List Nat),G.parts[i]? =AA P->i≠0->i≠3->∀x∈P,x∉G.b::bo G.A:=λi P hi h0 h3 x hx hmem=>by
  rcases BD.1 hmem with rfl|hmem;exact h.lay.ne hi (j:=0) rfl h0 _ hx AV;exact h.lay.ne hi (j:=3) rfl h3 x hx hmem
 have k1: ∀(i:Nat) (P:List Nat),G.parts[i]? =AA P->i≠0->i≠3->i≠1->∀x∈P,x∉Ea G.t1 G.g1++(G.b::bo G.A):=λi P hi h0 h3 h1 x hx hmem=>by
  rcases Bd.1 hmem with hmem|hmem;exact hm i P hi h1 x hx hmem;exact hm2 i P hi h0 h3 x hx hmem
 have hcc:AZ (Ea G.t1 G.g1++(G.b::bo G.A)) w w':=(hct.mono (λx hx=>.inl (F7 _ hx))).trans hc1 (λx hx=>.inl (Hg _ hx));have AFM:=h.lay.FX (w':=w1) (i:=1) (P':=Ea G.t1 g') rfl hsub ht'.lt hct.size;have ARx:=AFM.FX (w':=w') (i:=3) (P:=bo G.A) (P':=bo A') rfl hA ho.lt hc1.size
 have htn: ∀x∈Ea G.t1 g',x∉G.b::bo G.A:=λx hx hmem=>by
  rcases BD.1 hmem with rfl|hmem
  ·exact AFM.ne (i:=1) (j:=0) (P:=Ea G.t1 g') (Q:=[G.b]) rfl rfl Ar _ hx AV
  exact AFM.ne (i:=1) (j:=3) (P:=Ea G.t1 g') (Q:=bo G.A) rfl rfl Ar x hx hmem
 refine⟨{G with g1:=g',A:=A',c:=c',vs:=G.vs++[v]},⟨?_,ht'.keep hc1 htn,hi',h.tr2.keep hcc (k1 2 _ rfl Ar Ar Ar),h.is2,?_,?_,h.gq.Aj hcc (k1 4 _ rfl Ar Ar Ar),h.Qx,h.Wp,h.Rk,h.Zy,h.Wq,?_,ARx⟩,rfl,?_,?_⟩;simpa[St.make] using hb;simpa[St.make] using ho
 ·intro i c0 v0 e1 e2;have hvl:=h.vsl;have hK: ∀x∈G.K,x∉Ea G.t1 G.g1++(G.b::bo G.A):=k1 5 _ rfl Ar Ar Ar;simp only[St.make] at e1 e2;by_cases hil:i<S.ED.length
  ·rw[Nb Aa] at e1 e2;exact (h.chn i c0 v0 e1 e2).keep hcc hK (λ_ h=>h) (λ_ _=>rfl) (Bc _)
  have hie:i=S.ED.length:=by
   have:=(CP.1 e1).1;simp at this;omega
  subst hie;rw[Gy (Bc _),Jn] at e1;rw[Gy Aa,hvl,Jn] at e2;simp at e1 e2;subst e1;subst e2;exact hv.keep hcc hK (λ_ h=>h) (λ_ _=>rfl) (Bc _)
 ·intro i x g L f e1 e2 e3 e4;exact (h.ino i x g L f e1 e2 e3 e4).keep hcc (k1 5 _ rfl Ar Ar Ar x (h.Wq x (Bq e1))) (k1 (i+6) L (by simpa[Bi.parts] using e3) Aa Aa Aa)
 ·intro x hx;obtain⟨P,hP,hx⟩:=KN.1 hx;simp only[Bi.parts,BD] at hP;rcases hP with rfl|rfl|rfl|rfl|hP;exact .inl (Bi.Fh (i:=0) rfl hx);exact (hsub x hx).imp (λh=>Bi.Fh (i:=1) rfl h) id;exact .inl (Bi.Fh (i:=2) rfl hx);exact (hA x hx).imp (λh=>Bi.Fh (i:=3) rfl h) (λh=>CY hct.size h);exact .inl (KN.2 ⟨P,by simp only[Bi.parts,BD];exact .inr (.inr (.inr (.inr hP))),hx⟩)
 exact hcc.mono (λx hx=>.inl (by
  rcases Bd.1 hx with hx|hx;exact Bi.Fh (i:=1) rfl hx;rcases BD.1 hx with rfl|hx;exact Bi.Fh (i:=0) rfl AV
  exact Bi.Fh (i:=3) rfl hx))
theorem DK.of{w0:AL}{G G0:Bi}{S':St}(h:DK w0 G0 S' w')(hc:AZ [] w w0)(hb:G0.b=G.b)(hsub: ∀x∈G0.all,x∈G.all\/w.heap.size<=x):DK w G S' w':=by
 obtain⟨G',h1,h2,h3,h4⟩:=h
 exact⟨G',h1,h2.trans hb,λx hx=>by
  rcases h3 x hx with h|h;exact hsub x h
  exact .inr (CY hc.size h),(hc.nil _).trans h4 hsub⟩
theorem Bi.VE{G:Bi}(hx:B<=x): ∀y∈Bi.all {G with K:=x::G.K},y∈G.all\/B<=y:=by
 intro y hy;simp only[Bi.all,Bi.parts,JS,Bd,BD] at hy⊢;rcases hy with h|h|h|h|h|(rfl|h)|h;exact .inl (.inl h);exact .inl (.inr (.inl h));exact .inl (.inr (.inr (.inl h)));exact .inl (.inr (.inr (.inr (.inl h))));exact .inl (.inr (.inr (.inr (.inr (.inl h)))));exact .inr hx;exact .inl (.inr (.inr (.inr (.inr (.inr (.inl h))))));exact .inl (.inr (.inr (.inr (.inr (.inr (.inr h))))))
theorem Bi.AAe{G:Bi}{g:Nat}(hx:B<=x)(hL: ∀k∈L,B<=k): ∀y∈Bi.all {G with K:=x::G.K,ib:=G.ib++[x],sg:=G.sg++[g],Ls:=G.Ls++[L]},y∈G.all\/B<=y:=by
 intro y hy;simp only[Bi.all,Bi.parts,JS,lC,mP,I9,Bd,BD] at hy⊢;rcases hy with h|h|h|h|h|(rfl|h)|h|h;exact .inl (.inl h);exact .inl (.inr (.inl h));exact .inl (.inr (.inr (.inl h)));exact .inl (.inr (.inr (.inr (.inl h))));exact .inl (.inr (.inr (.inr (.inr (.inl h)))));exact .inr hx;exact .inl (.inr (.inr (.inr (.inr (.inr (.inl h))))));exact .inl (.inr (.inr (.inr (.inr (.inr (.inr h))))));exact .inr (hL y h)
end
section
variable {d n:ByteArray}{e:Int}{B j k x:Nat}{S:St}{w:AL}
theorem ACr{G:Bi}(h:EH w G S)(hi:Inv B S)(hB:B<=1073741824)(hok:EF.ok S.files.length S.seen (.Cc d))(Kk:k∈G.K)(hk:w.cell? ⟨k,0,AB⟩=AA (.string d)):
  Au Ag 71 #[.pointer (AA ⟨G.b,0,AB⟩),.func (.func 72) #[] #[.pointer (AA ⟨k,0,AB⟩)]] w λe w'=>e=.returned (.int .i64 0)/\DK w G (S.make (.Cc d)) w':=by
 (have n1:S.ED.length<=1073741824:=by have:=hi.wds;omega);(have n2:S.steps<=1073741824:=by have:=hi.st;omega);have hm: ∀(j:Nat) (P:List Nat),G.parts[j]? =AA P->j≠1->∀x∈P,x∉Ea G.t1 G.g1:=λj P hj hne x hx=>h.lay.ne hj (j:=1) rfl hne x hx;refine (dG 72 #[_] @ATR G.b G.t1 (AA G.t2) G.A G.Aw S.ED.length G.c S.wr.length G.cw S.BG S.stop S.steps G.vs w (λw'=>TD w G.t1 G.g1 G.ib (EF.on S.seen (.Cc d)) w') (Ea G.t1 G.g1) ((xC h.Fg h.MB hok.2 hk).mono (λe w' hq=>⟨hq.1,hq.2,hq.2.2⟩)) h.blk h.own (hm 0 _ rfl Ar _ AV) (hm 3 _ rfl Ar) n1 n2).mono ?_;rintro e w' ⟨rfl,w1,hcl,hc0,hc1,A',c',hb,ho,hA⟩;exact⟨rfl,h.did ⟨k,rfl,Kk,hk⟩ hcl hc1 hb ho hA⟩
theorem ACs{G:Bi}(h:EH w G S)(hi:Inv B S)(hB:B<=1073741824)(_:EF.ok S.files.length S.seen (.rmdir d))(Kk:k∈G.K)(hk:w.cell? ⟨k,0,AB⟩=AA (.string d)):
  Au Ag 71 #[.pointer (AA ⟨G.b,0,AB⟩),.func (.func 130) #[] #[.pointer (AA ⟨k,0,AB⟩)]] w λe w'=>e=.returned (.int .i64 0)/\DK w G (S.make (.rmdir d)) w':=by
 (have n1:S.ED.length<=1073741824:=by have:=hi.wds;omega);(have n2:S.steps<=1073741824:=by have:=hi.st;omega);have hm: ∀(j:Nat) (P:List Nat),G.parts[j]? =AA P->j≠1->∀x∈P,x∉Ea G.t1 G.g1:=λj P hj hne x hx=>h.lay.ne hj (j:=1) rfl hne x hx;refine (dG 130 #[_] @AQv G.b G.t1 (AA G.t2) G.A G.Aw S.ED.length G.c S.wr.length G.cw S.BG S.stop S.steps G.vs w (λw'=>TD w G.t1 G.g1 G.ib (EF.on S.seen (.rmdir d)) w') (Ea G.t1 G.g1) ((xE h.Fg h.MB hk).mono (λe w' hq=>⟨hq.1,hq.2,hq.2.2⟩)) h.blk h.own (hm 0 _ rfl Ar _ AV) (hm 3 _ rfl Ar) n1 n2).mono ?_;rintro e w' ⟨rfl,w1,hcl,hc0,hc1,A',c',hb,ho,hA⟩;exact⟨rfl,h.did ⟨k,rfl,Kk,hk⟩ hcl hc1 hb ho hA⟩
theorem AAf{G:Bi}(h:EH w G S)(hi:Inv B S)(hB:B<=1073741824)(hok:EF.ok S.files.length S.seen (.remove d n))(Kk:k∈G.K)(hk:w.cell? ⟨k,0,AB⟩=AA (.string d))(Kj:j∈G.K)(hj:w.cell? ⟨j,0,AB⟩=AA (.string n)):
  Au Ag 71 #[.pointer (AA ⟨G.b,0,AB⟩),.func (.func 129) #[] #[.pointer (AA ⟨k,0,AB⟩),.pointer (AA ⟨j,0,AB⟩)]] w λe w'=>e=.returned (.int .i64 0)/\DK w G (S.make (.remove d n)) w':=by
 (have n1:S.ED.length<=1073741824:=by have:=hi.wds;omega);(have n2:S.steps<=1073741824:=by have:=hi.st;omega);have hm: ∀(j:Nat) (P:List Nat),G.parts[j]? =AA P->j≠1->∀x∈P,x∉Ea G.t1 G.g1:=λj P hj hne x hx=>h.lay.ne hj (j:=1) rfl hne x hx;refine (dG 129 #[_,_] @AQu G.b G.t1 (AA G.t2) G.A G.Aw S.ED.length G.c S.wr.length G.cw S.BG S.stop S.steps G.vs w (λw'=>TD w G.t1 G.g1 G.ib (EF.on S.seen (.remove d n)) w') (Ea G.t1 G.g1) ((qK h.Fg h.MB hi.val hok hk hj).mono (λe w' hq=>⟨hq.1,hq.2,hq.2.2⟩)) h.blk h.own (hm 0 _ rfl Ar _ AV) (hm 3 _ rfl Ar) n1 n2).mono ?_;rintro e w' ⟨rfl,w1,hcl,hc0,hc1,A',c',hb,ho,hA⟩;exact⟨rfl,h.did ⟨k,j,rfl,Kk,Kj,hk,hj⟩ hcl hc1 hb ho hA⟩
theorem AAg{G:Bi}(h:EH w G S)(hi:Inv B S)(hB:B<=1073741824){a b:ByteArray}(hok:EF.ok S.files.length S.seen (.rename a b))(Kk:k∈G.K)(hk:w.cell? ⟨k,0,AB⟩=AA (.string a))(Kj:j∈G.K)(hj:w.cell? ⟨j,0,AB⟩=AA (.string b)):
  Au Ag 71 #[.pointer (AA ⟨G.b,0,AB⟩),.func (.func 85) #[] #[.pointer (AA ⟨k,0,AB⟩),.pointer (AA ⟨j,0,AB⟩)]] w λe w'=>e=.returned (.int .i64 0)/\DK w G (S.make (.rename a b)) w':=by
 (have n1:S.ED.length<=1073741824:=by have:=hi.wds;omega);(have n2:S.steps<=1073741824:=by have:=hi.st;omega);have hm: ∀(j:Nat) (P:List Nat),G.parts[j]? =AA P->j≠1->∀x∈P,x∉Ea G.t1 G.g1:=λj P hj hne x hx=>h.lay.ne hj (j:=1) rfl hne x hx;refine (dG 85 #[_,_] @ATV G.b G.t1 (AA G.t2) G.A G.Aw S.ED.length G.c S.wr.length G.cw S.BG S.stop S.steps G.vs w (λw'=>TD w G.t1 G.g1 G.ib (EF.on S.seen (.rename a b)) w') (Ea G.t1 G.g1) ((qL h.Fg h.MB hok hk hj (λe=>hm 5 _ rfl Ar k Kk (by simp[Ea,e])) (λe=>hm 5 _ rfl Ar j Kj (by simp[Ea,e]))).mono (λe w' hq=>⟨hq.1,hq.2,hq.2.2⟩)) h.blk h.own (hm 0 _ rfl Ar _ AV) (hm 3 _ rfl Ar) n1 n2).mono ?_;rintro e w' ⟨rfl,w1,hcl,hc0,hc1,A',c',hb,ho,hA⟩;exact⟨rfl,h.did ⟨k,j,rfl,Kk,Kj,hk,hj⟩ hcl hc1 hb ho hA⟩
theorem AAh{G:Bi}(h:EH w G S)(hi:Inv B S)(hB:B<=1073741824){i:Nat}(hok:EF.ok S.files.length S.seen (.create d n i))(Kx:x∈G.K)(hx:w.cell? ⟨x,0,AB⟩=AA (.pointer (AA ⟨EG G.ib i,0,AB⟩)))(Kk:k∈G.K)(hk:w.cell? ⟨k,0,AB⟩=AA (.string d))(Kj:j∈G.K)(hj:w.cell? ⟨j,0,AB⟩=AA (.string n)):
  Au Ag 71 #[.pointer (AA ⟨G.b,0,AB⟩),.func (.func 73) #[] #[.pointer (AA ⟨x,0,AB⟩),.pointer (AA ⟨k,0,AB⟩),.pointer (AA ⟨j,0,AB⟩)]] w λe w'=>e=.returned (.int .i64 0)/\DK w G (S.make (.create d n i)) w':=by
 (have n1:S.ED.length<=1073741824:=by have:=hi.wds;omega);(have n2:S.steps<=1073741824:=by have:=hi.st;omega);have hm: ∀(j:Nat) (P:List Nat),G.parts[j]? =AA P->j≠1->∀x∈P,x∉Ea G.t1 G.g1:=λj P hj hne x hx=>h.lay.ne hj (j:=1) rfl hne x hx;refine (dG 73 #[_,_,_] @ATS G.b G.t1 (AA G.t2) G.A G.Aw S.ED.length G.c S.wr.length G.cw S.BG S.stop S.steps G.vs w (λw'=>TD w G.t1 G.g1 G.ib (EF.on S.seen (.create d n i)) w') (Ea G.t1 G.g1) ((qJ h.Fg h.MB hi.val hok hx hk hj).mono (λe w' hq=>⟨hq.1,hq.2,hq.2.2⟩)) h.blk h.own (hm 0 _ rfl Ar _ AV) (hm 3 _ rfl Ar) n1 n2).mono ?_;rintro e w' ⟨rfl,w1,hcl,hc0,hc1,A',c',hb,ho,hA⟩;exact⟨rfl,h.did ⟨x,k,j,rfl,Kx,Kk,Kj,hx,hk,hj,by rw[h.Qx];exact hok.1⟩ hcl hc1 hb ho hA⟩
theorem H7{there:Bool}{ns:List ByteArray}(h:S.ask there ns=0):S.down=false/\(∀n∈ns,CV n=true)/\(there=true->∃F,BK S.seen (ns.headD MM)=AA F):=by
 unfold St.ask at h
 cases hd:S.down with
 |true=>rw[BZ hd] at h;cases h|false=>
  rw[BM (by simp[hd])] at h
  cases hg:ns.all CV with
  |false=>rw[BZ hg] at h;cases h|true=>
   rw[BM (by simp[hg])] at h;refine⟨rfl,λn hn=>JH.1 hg n hn,λht=>?_⟩
   cases hs:BK S.seen (ns.headD MM) with|some F=>exact⟨F,rfl⟩|none=>rw[BZ ⟨ht,by rw[hs];rfl⟩] at h;cases h
theorem AHt{G:Bi}(h:EH w G S)(hi:Inv B S)(hB:B<=1073741824)(d:ByteArray):
  Au Ag 42 #[.pointer (AA ⟨G.b,0,AB⟩),.string d] w λe w'=>e=.returned (.int .i64 (S.Cc d).2)/\DK w G (S.Cc d).1 w':=by
 have HF:=AP h;have HI:=AP hi;have HB:=AP hB;clear h hi hB;have k70:= @jS;have k71:= @ACW;go_enter ANh,Tryz.ntmps42;(go_wp2_with fail);have hal:AZ [] w ((w.alloc (.cells #[.string d] 9)).alloc (.cells #[.string d] 9)):=((AZ.refl _ _).alloc _).alloc _;refine (Vt (HF.out.CX hal) false _ 1 1 [d] (by simpa[Pm] using (Own.lit (w.alloc (.cells #[.string d] 9)) 9 1 #[.string d] 1 Ar rfl).rd) Ar AV).mono ?_;rintro e w1 ⟨rfl,hc1⟩;have CZ:Hid (AZ [] w w1):=AP (hal.Ah hc1);have hk:w1.cell? ⟨w.heap.size,0,AB⟩=AA (.string d):=hc1.cell (((Bl.new w 9 #[.string d]).alloc _).cell 0) (λh=>BH h);(have hs1:w.heap.size<w1.heap.size:=by have:=hc1.size;simp at this;omega);have Gf:=AP (HF.out.xH CZ.out (Bc _) hs1);clear hc1 hal hs1;obtain⟨E,hE⟩: ∃E,S.ask false [d]=E:=⟨_,rfl⟩;rw[hE];have HE:=AP hE;clear hE;by_cases h:E=0
 ·subst h;have h0:=Gf.out.blk.cell 0;simp at h0;have hl:=λq=>(Mp.lookup (Gf.out.Fg.top.Aj ((AZ.refl [] w1).drewN q) BH) (DC LC) I4 (z:=.map AB) Aq d).1;have hq:=λw r=>run_neq_map_nil (P:=Ag) w 130 _ _ r PY;simp only[Ez] at hl
  cases hd:BK G.g1 d with
  |some e=>
   rw[hd] at hl;simp only[Fq,Dx] at hl
   have HR:Hid (S.Cc d=(S,83)):=AP (by
    have:=HF.out.MB.top d;rw[hd] at this;unfold St.Cc
    rw[BM (by rw[HE.out];simp),BZ (by rw[<- this];rfl)])
   clear hd;(go_wp2_with fail);go_quiet (fail);go_wp2;go_ret;exact⟨by rw[HR.out];rfl,by rw[HR.out];exact DK.same HF.out (CZ.out.drewN _)⟩
  |none=>
   rw[hd] at hl;simp only[YG,Option.getD_none] at hl
   have hT:BK S.seen d=AB:=by
    have:=HF.out.MB.top d;rw[hd] at this
    cases hs:BK S.seen d with|none=>rfl|some F=>rw[hs] at this;cases this
   have HR:Hid (S.Cc d=(S.make (.Cc d),0)):=AP (by
    unfold St.Cc
    rw[BM (by rw[HE.out];simp),BM (by rw[hT];simp)])
   have HT:=AP hT;clear hd hT;(go_wp2_with fail);go_quiet (fail);(go_wp2_with fail);refine (ACr (Gf.out.CX ((AZ.refl [] w1).drewN _)) HI.out HB.out ⟨(H7 HE.out).2.1 d AV,HT.out⟩ (k:=w.heap.size) AV (((AZ.refl [] w1).drewN _).cell hk BH)).mono ?_;rintro e w2 ⟨rfl,hto⟩;have HTO:=AP hto;clear hto;go_wp2;go_ret;exact⟨by rw[HR.out];rfl,by rw[HR.out];exact HTO.out.of (CZ.out.drewN _) rfl (Bi.VE (Bc _))⟩
 (have hb:(E !=0)=true:=by simp[h]);have HR:Hid (S.Cc d=(S,E)):=AP (by unfold St.Cc;rw[HE.out,BZ h]);clear h;go_wp2;go_ret;exact⟨by rw[HR.out];rfl,by rw[HR.out];exact DK.same HF.out CZ.out⟩
theorem EH.AFN{w1:AL}{G:Bi}(h:EH w G S)(hc:AZ [] w w1)(hx1:w.heap.size+1<w1.heap.size):EH w1 {G with K:=(w.heap.size+1)::w.heap.size::G.K} S:=by
 have hc0:AZ [] w (w.alloc (.map #[] 0)):=(AZ.refl _ _).alloc _;have h1:=h.xH (x:=w.heap.size) hc0 (Bc _) AV;have h2:=h.xH (x:=w.heap.size) hc (Bc _) Aa;refine⟨h2.blk,h2.Fg,h2.MB,h2.tr2,h2.is2,h2.own,λi c v a b=>(h2.chn i c v a b).keep (AZ.refl [] w1) Ew (λ_ hm=>CO _ hm) (λ_ _=>rfl) (Bc _),h2.gq,h2.Qx,h2.Wp,h2.Rk,h2.Zy,λy hy=>CO _ (h2.Wq y hy),h2.ino,?_⟩
 exact h1.lay.FX (w':=w1) (i:=5) (P':=(w.heap.size+1)::w.heap.size::G.K) rfl (λy hy=>by
  rcases BD.1 hy with rfl|hy;right;simp
  ·exact .inl hy) (λy hy=>by
  rcases BD.1 hy with rfl|hy;exact hx1
  exact h2.lay.lt (w.heap.size::G.K) (Bq (i:=5) rfl) y hy) (by simp;omega)
theorem Bi.Zz{G:Bi}{y:Nat}(hx:B<=x)(hy:B<=y): ∀z∈Bi.all {G with K:=y::x::G.K},z∈G.all\/B<=z:=by
 intro z hz;rcases Bi.VE (G:={G with K:=x::G.K}) hy z hz with h|h;exact Bi.VE hx z h;exact .inr h
theorem Mp.len{κ:Type}{b:Nat}{kv:κ->AQ}{m:List (κ×AQ)}(h:Mp w b kv m){t k e ty:Am}(ht:Ag.underlying t=AA (.map k e)):(Us #[t] ty #[.map (AA b)]).run Ag w=.ok (.int .i64 (m.length:Int)) w:=by
 obtain⟨es,clock,hb,he,_⟩:=h;(have hl:es.size=m.length:=by have:=congrArg Ky he;simpa using this);(have hrun:(getObj b).run Ag w=.ok (.map es clock) w:=by simp[getObj,Dw,hb]);simp[Us,IQ ht,hrun,hl,goInt]
theorem AHu{G:Bi}(h:EH w G S)(hi:Inv B S)(hB:B<=1073741824)(d:ByteArray):
  Au Ag 99 #[.pointer (AA ⟨G.b,0,AB⟩),.string d] w λe w'=>e=.returned (.int .i64 (S.rmdir d).2)/\DK w G (S.rmdir d).1 w':=by
 have HF:=AP h;have HI:=AP hi;have HB:=AP hB;clear h hi hB;have k70:= @jS;have k71:= @ACW;go_enter AOI,Tryz.ntmps99;(go_wp2_with fail);have hal:AZ [] w ((w.alloc (.cells #[.string d] 9)).alloc (.cells #[.string d] 9)):=((AZ.refl _ _).alloc _).alloc _;refine (Vt (HF.out.CX hal) true _ 1 1 [d] (by simpa[Pm] using (Own.lit (w.alloc (.cells #[.string d] 9)) 9 1 #[.string d] 1 Ar rfl).rd) Ar AV).mono ?_;rintro e w1 ⟨rfl,hc1⟩;have CZ:Hid (AZ [] w w1):=AP (hal.Ah hc1);have hk:w1.cell? ⟨w.heap.size,0,AB⟩=AA (.string d):=hc1.cell (((Bl.new w 9 #[.string d]).alloc _).cell 0) (λh=>BH h);(have hs1:w.heap.size<w1.heap.size:=by have:=hc1.size;simp at this;omega);have Gf:=AP (HF.out.xH CZ.out (Bc _) hs1);clear hc1 hal hs1;obtain⟨E,hE⟩: ∃E,S.ask true [d]=E:=⟨_,rfl⟩;rw[hE];have HE:=AP hE;clear hE;by_cases h:E=0
 ·subst h;obtain⟨F,hF⟩:=(H7 HE.out).2.2 rfl;simp only[Rt] at hF;obtain⟨g,hg,hsub⟩:=HF.out.MB.get hF;have h0:=Gf.out.blk.cell 0;simp at h0;have hl:=λq=>(Mp.lookup (Gf.out.Fg.top.Aj ((AZ.refl [] w1).drewN q) BH) (DC LC) I4 (z:=.map AB) Aq d).1;rw[show G.g1=({G with K:=w.heap.size::G.K}:Bi).g1 from rfl] at hg;have hlen:=λq ty=>Mp.len ((Gf.out.Fg.sub _ (CQ hg)).Aj ((AZ.refl [] w1).drewN q) BH) (ty:=ty) PY;simp only[Ez,hg] at hl;simp only[Fq,Dx] at hl
  have hfl:(Iu g.2).length=F.length:=by
   have:=(gp hsub (Gf.out.Fg.SC (CQ hg)) (HI.out.val.sub _ (CQ hF))).length_eq;simpa[Iu] using this
  simp only[hfl] at hlen;have Ws:=AP hF;clear hg hsub hfl hF;by_cases hz:0<F.length
  ·have hz1: ¬F.length=0:=by omega
   have HR:Hid (S.rmdir d=(S,84)):=AP (by
    unfold St.rmdir;rw[BM (by rw[HE.out];simp),BZ (by rw[FP Ws.out];exact hz)]
    rfl)
   (go_wp2_with fail);go_quiet (fail);go_wp2;go_ret;exact⟨by rw[HR.out];rfl,by rw[HR.out];exact DK.same HF.out (CZ.out.drewN _)⟩
  (have hz0:F.length=0:=by omega);rw[hz0] at hlen
  have HR:Hid (S.rmdir d=(S.make (.rmdir d),0)):=AP (by
   unfold St.rmdir
   rw[BM (by rw[HE.out];simp),BM (by rw[FP Ws.out];exact hz)])
  clear hz hz0;(go_wp2_with fail);go_quiet (fail);(go_wp2_with fail);refine (ACs (Gf.out.CX ((AZ.refl [] w1).drewN _)) HI.out HB.out ⟨F,Ws.out⟩ (k:=w.heap.size) AV (((AZ.refl [] w1).drewN _).cell hk BH)).mono ?_;rintro e w2 ⟨rfl,hto⟩;have HTO:=AP hto;clear hto;go_wp2;go_ret;exact⟨by rw[HR.out];rfl,by rw[HR.out];exact HTO.out.of (CZ.out.drewN _) rfl (Bi.VE (Bc _))⟩
 (have hb:(E !=0)=true:=by simp[h]);have HR:Hid (S.rmdir d=(S,E)):=AP (by unfold St.rmdir;rw[HE.out,BZ h]);clear h;go_wp2;go_ret;exact⟨by rw[HR.out];rfl,by rw[HR.out];exact DK.same HF.out CZ.out⟩
theorem AFO{G:Bi}(h:EH w G S)(hi:Inv B S)(hB:B<=1073741824)(d n:ByteArray):
  Au Ag 52 #[.pointer (AA ⟨G.b,0,AB⟩),.string d,.string n] w λe w'=>e=.returned (.int .i64 (S.rename d n).2)/\DK w G (S.rename d n).1 w':=by
 have HF:=AP h;have HI:=AP hi;have HB:=AP hB;clear h hi hB;have k70:= @jS;have k71:= @ACW;go_enter ANp,Tryz.ntmps52;(go_wp2_with fail);have hal:AZ [] w (((w.alloc (.cells #[.string d] 9)).alloc (.cells #[.string n] 9)).alloc (.cells #[.string d,.string n] 9)):=(((AZ.refl _ _).alloc _).alloc _).alloc _;(have hsz:((w.alloc (.cells #[.string d] 9)).alloc (.cells #[.string n] 9)).heap.size=w.heap.size+2:=by simp);refine (Vt (HF.out.CX hal) true _ 2 2 [d,n] (by simpa[Pm] using (Own.lit ((w.alloc (.cells #[.string d] 9)).alloc (.cells #[.string n] 9)) 9 1 #[.string d,.string n] 2 Ar rfl).rd) Ar AV).mono ?_;rintro e w1 ⟨rfl,hc1⟩;have CZ:Hid (AZ [] w w1):=AP (hal.Ah hc1);have hk:w1.cell? ⟨w.heap.size,0,AB⟩=AA (.string d):=hc1.cell ((((Bl.new w 9 #[.string d]).alloc _).alloc _).cell 0) (λh=>BH h);have hj:w1.cell? ⟨w.heap.size+1,0,AB⟩=AA (.string n):=hc1.cell (by simpa using (((Bl.new (w.alloc (.cells #[.string d] 9)) 9 #[.string n]).alloc _).cell 0)) (λh=>BH h);(have hs1:w.heap.size+1<w1.heap.size:=by have:=hc1.size;simp at this;omega);have Gf:=AP ((HF.out.xH CZ.out (Bc w.heap.size) Aa));have AGf:Hid (w.heap.size+1<w1.heap.size):=AP hs1;clear hc1 hal hs1 hsz;obtain⟨E,hE⟩: ∃E,S.ask true [d,n]=E:=⟨_,rfl⟩;rw[hE];have HE:=AP hE;clear hE;by_cases h:E=0
 ·subst h;obtain⟨F,hF⟩:=(H7 HE.out).2.2 rfl;simp only[Rt] at hF;have Ws:=AP hF
  have HR:Hid (S.rename d n=(S.make (.rename d n),0)):=AP (by
   unfold St.rename
   rw[BM (by rw[HE.out];simp)])
  clear hF;(go_wp2_with fail);refine (AAg (HF.out.AFN CZ.out AGf.out) HI.out HB.out ⟨(H7 HE.out).2.1 n AV,F,Ws.out⟩ (k:=w.heap.size) (j:=w.heap.size+1) AV hk AV hj).mono ?_;rintro e w2 ⟨rfl,hto⟩;have HTO:=AP hto;clear hto;go_wp2;go_ret;exact⟨by rw[HR.out];rfl,by rw[HR.out];exact HTO.out.of CZ.out rfl (Bi.Zz (Bc _) Aa)⟩
 (have hb:(E !=0)=true:=by simp[h]);have HR:Hid (S.rename d n=(S,E)):=AP (by unfold St.rename;rw[HE.out,BZ h]);clear h;go_wp2;go_ret;exact⟨by rw[HR.out];rfl,by rw[HR.out];exact DK.same HF.out CZ.out⟩
theorem VF(h:S.Ov d n=(AA x,e)):e=0/\S.down=false/\∃F,BK S.seen d=AA F/\BK F n=AA x:=by
 unfold St.Ov at h;by_cases h0:S.ask true [d,n]=0
 ·rw[BM (by simp[h0])] at h;obtain⟨hd,_,hF⟩:=H7 h0;obtain⟨F,hF⟩:=hF rfl;simp only[Rt] at hF;rw[FP hF] at h
  cases hn:BK F n with|none=>rw[hn] at h;cases h|some i=>rw[hn] at h;injection h with h1 h2;injection h1 with h1;subst h1;exact⟨h2.symm,hd,F,hF,hn⟩
 rw[BZ h0] at h;cases h
theorem qO(h:S.Ov d n=(AB,e)):e≠0:=by
 unfold St.Ov at h;by_cases h0:S.ask true [d,n]=0
 ·rw[BM (by simp[h0])] at h
  cases hn:BK (FO S.seen d) n with
  |none=>rw[hn] at h;injection h with _ h2;rw[<- h2];decide
  |some i=>rw[hn] at h;cases h
 rw[BZ h0] at h;injection h with _ h2;rw[<- h2];exact h0
theorem AFP{G:Bi}(h:EH w G S)(hi:Inv B S)(hB:B<=1073741824)(d n:ByteArray):
  Au Ag 98 #[.pointer (AA ⟨G.b,0,AB⟩),.string d,.string n] w λe w'=>e=.returned (.int .i64 (S.remove d n).2)/\DK w G (S.remove d n).1 w':=by
 have HF:=AP h;have HI:=AP hi;have HB:=AP hB;clear h hi hB;have k71:= @ACW;have k81:= @AKR;go_enter AOH,Tryz.ntmps98;(go_wp2_with fail);have hal:AZ [] w ((w.alloc (.cells #[.string d] 9)).alloc (.cells #[.string n] 9)):=((AZ.refl _ _).alloc _).alloc _;refine (qN (HF.out.CX hal) d n).mono ?_;rintro e w1 ⟨rfl,hc1⟩;have CZ:Hid (AZ [] w w1):=AP (hal.Ah hc1);have hk:w1.cell? ⟨w.heap.size,0,AB⟩=AA (.string d):=hc1.cell (((Bl.new w 9 #[.string d]).alloc _).cell 0) (λh=>BH h);have hj:w1.cell? ⟨w.heap.size+1,0,AB⟩=AA (.string n):=hc1.cell AV (λh=>BH h);(have hs1:w.heap.size+1<w1.heap.size:=by have:=hc1.size;simp at this;omega);have AGf:Hid (w.heap.size+1<w1.heap.size):=AP hs1;clear hc1 hal hs1;obtain⟨o,E,hE⟩: ∃o E,S.Ov d n=(o,E):=⟨_,_,rfl⟩;rw[hE];have HE:=AP hE
 cases o with
 |some x=>
  obtain⟨he0,hd0,F,hF,hx⟩:=VF hE;subst he0;have Ws:=AP hF;have HR:Hid (S.remove d n=(S.make (.remove d n),0)):=AP (by unfold St.remove;rw[HE.out]);clear hF hE hx hd0;simp only[Xl,Fq];(go_wp2_with fail);refine (AAf (HF.out.AFN CZ.out AGf.out) HI.out HB.out ⟨F,Ws.out⟩ (k:=w.heap.size) (j:=w.heap.size+1) AV hk AV hj).mono ?_;rintro e w2 ⟨rfl,hto⟩;have HTO:=AP hto;clear hto;go_wp2;go_ret;exact⟨by rw[HR.out];rfl,by rw[HR.out];exact HTO.out.of CZ.out rfl (Bi.Zz (Bc _) Aa)⟩
 |none=>
  (have hb:(E !=0)=true:=by simpa using qO hE);have HR:Hid (S.remove d n=(S,E)):=AP (by unfold St.remove;rw[HE.out]);clear hE;simp only[Xl,YG];go_wp2;go_ret;exact⟨by rw[HR.out];rfl,by rw[HR.out];exact DK.same HF.out CZ.out⟩
theorem kL(fs:List Ee)(f:Ee):Ik (fs++[f])=Ik fs+(f.all.length+f.2.length):=by
 simp[Ik]
theorem Inv.dI(h:Inv B S)(f:List Int):Inv (B+f.length+1) {S with files:=S.files++[(f,[])]}:=by
 obtain⟨h1,h2,h3,h4,h5,h6,h7,h8,h9,h10⟩:=h;refine⟨h1.mono AV,AHs h2 AV,h3,λx hx=>by have:=h4 x hx;simp;omega,by simp only;omega,by simp;omega,?_,by simp only;omega,by simp only;omega,h10⟩;simp only[kL,Ee.all,mP,I9,Hr];omega
theorem AFQ{G:Bi}(h:EH w G S)(hi:Inv B S)(hB:B+1<=1073741824)(d n:ByteArray):
  Au Ag 44 #[.pointer (AA ⟨G.b,0,AB⟩),.string d,.string n] w λe w'=>e=.returned (.int .i64 (S.create d n).2)/\DK w G (S.create d n).1 w':=by
 have HF:=AP h;have HI:=AP hi;have HB:=AP hB;clear h hi hB;have k59:= @AOS;have k70:= @jS;have k71:= @ACW;go_enter ANj,Tryz.ntmps44;(go_wp2_with fail);have hal:AZ [] w (((w.alloc (.cells #[.string d] 9)).alloc (.cells #[.string n] 9)).alloc (.cells #[.string d,.string n] 9)):=(((AZ.refl _ _).alloc _).alloc _).alloc _;(have hsz:((w.alloc (.cells #[.string d] 9)).alloc (.cells #[.string n] 9)).heap.size=w.heap.size+2:=by simp);refine (Vt (HF.out.CX hal) true _ 2 2 [d,n] (by simpa[Pm] using (Own.lit ((w.alloc (.cells #[.string d] 9)).alloc (.cells #[.string n] 9)) 9 1 #[.string d,.string n] 2 Ar rfl).rd) Ar AV).mono ?_;rintro e w1 ⟨rfl,hc1⟩;have CZ:Hid (AZ [] w w1):=AP (hal.Ah hc1);have hk:w1.cell? ⟨w.heap.size,0,AB⟩=AA (.string d):=hc1.cell ((((Bl.new w 9 #[.string d]).alloc _).alloc _).cell 0) (λh=>BH h);have hj:w1.cell? ⟨w.heap.size+1,0,AB⟩=AA (.string n):=hc1.cell (by simpa using (((Bl.new (w.alloc (.cells #[.string d] 9)) 9 #[.string n]).alloc _).cell 0)) (λh=>BH h);(have hs1:w.heap.size+1<w1.heap.size:=by have:=hc1.size;simp at this;omega);have AGf:Hid (w.heap.size+1<w1.heap.size):=AP hs1;have Gf:=AP (HF.out.AFN CZ.out hs1);clear hc1 hal hs1 hsz;obtain⟨E,hE⟩: ∃E,S.ask true [d,n]=E:=⟨_,rfl⟩;rw[hE];have HE:=AP hE;clear hE;by_cases h:E=0
 ·subst h;obtain⟨F,hF⟩:=(H7 HE.out).2.2 rfl;simp only[Rt] at hF;obtain⟨g,hg,hsub⟩:=HF.out.MB.get hF;have h0:=Gf.out.blk.cell 0;simp at h0;have hl:=λq=>(Mp.lookup (Gf.out.Fg.top.Aj ((AZ.refl [] w1).drewN q) BH) (DC LC) I4 (z:=.map AB) Aq d).1;rw[show G.g1=({G with K:=(w.heap.size+1)::w.heap.size::G.K}:Bi).g1 from rfl] at hg;have hl2:=λq=>(Mp.lookup ((Gf.out.Fg.sub _ (CQ hg)).Aj ((AZ.refl [] w1).drewN q) BH) (DC LC) PY (z:=.pointer AB) Aq n).1;simp only[Ez,hg] at hl;simp only[Fq,Dx] at hl;simp only at hl2;simp only[Vp,hsub n] at hl2;have Ws:=AP hF;clear hg hsub hF
  cases hx:BK F n with
  |some x=>
   rw[hx] at hl2;simp only[Fq,Dx] at hl2
   have HR:Hid (S.create d n=(S,83)):=AP (by
    unfold St.create
    rw[BM (by rw[HE.out];simp),BZ (by rw[FP Ws.out,hx];rfl)])
   clear hx;(go_wp2_with fail);go_quiet (fail);go_wp2;go_ret;exact⟨by rw[HR.out];rfl,by rw[HR.out];exact DK.same HF.out (CZ.out.drewN _)⟩
  |none=>
   rw[hx] at hl2;simp only[YG,Option.getD_none] at hl2
   have HR:Hid (S.create d n=(({S with files:=S.files++[([],[])]}:St).make (.create d n S.files.length),0)):=AP (by
    unfold St.create
    rw[BM (by rw[HE.out];simp),BM (by rw[FP Ws.out,hx];simp)])
   have HX:=AP hx;clear hx;(go_wp2_with fail);go_quiet (fail);(go_wp2_with fail);refine (new_any AB 0 0 [] _ Ar (Rd.nil _ _)).mono ?_;rintro e w2 ⟨sg,L,rfl,hs,hc2,hLn⟩;have HC2:Hid (AZ [] w1 w2):=AP (((AZ.refl [] w1).drewN _).Ah hc2);have HS:=AP hs;have HLN:Hid (∀k∈L,w1.heap.size<=k):=AP hLn;have hk2:=HC2.out.cell hk BH;have hj2:=HC2.out.cell hj BH;clear hs hc2 hLn hk hj h0 hl hl2;(go_wp2_with fail);have hF2:=Gf.out.dI HI.out HC2.out HLN.out HS.out (w2:=w2.alloc (.cells #[.pointer (AA ⟨sg,0,AB⟩)] 126)) ((AZ.refl [] w2).alloc _) (x:=w2.heap.size) (Bc _) (Bl.new w2 126 #[.pointer (AA ⟨sg,0,AB⟩)]);have hF3:=hF2.xH (w1:=(w2.alloc (.cells #[.pointer (AA ⟨sg,0,AB⟩)] 126)).alloc (.cells #[.pointer (AA ⟨w2.heap.size,0,AB⟩)] 121)) ((AZ.refl [] _).alloc _) (x:=w2.heap.size+1) AV AV;have hc4:AZ [] w2 ((w2.alloc (.cells #[.pointer (AA ⟨sg,0,AB⟩)] 126)).alloc (.cells #[.pointer (AA ⟨w2.heap.size,0,AB⟩)] 121)):=((AZ.refl [] w2).alloc _).alloc _
   have hx4:((w2.alloc (.cells #[.pointer (AA ⟨sg,0,AB⟩)] 126)).alloc (.cells #[.pointer (AA ⟨w2.heap.size,0,AB⟩)] 121)).cell? ⟨w2.heap.size+1,0,AB⟩=AA (.pointer (AA ⟨w2.heap.size,0,AB⟩)):=by
    simp
   (have hib:EG (G.ib++[w2.heap.size]) S.files.length=w2.heap.size:=by rw[<- HF.out.Qx];exact ACq _ _);have hin:=HI.out.dI [];refine (AAh hF3 hin (by simpa using HB.out) (i:=S.files.length) ⟨AV,(H7 HE.out).2.1 n AV,F,Ws.out,HX.out⟩ (x:=w2.heap.size+1) (k:=w.heap.size) (j:=w.heap.size+1) AV (by show _=AA (QW (AA ⟨EG (G.ib++[w2.heap.size]) S.files.length,0,AB⟩));rw[hib];exact hx4) AV (hc4.cell hk2 BH) AV (hc4.cell hj2 BH)).mono ?_;rintro e w5 ⟨rfl,hto⟩;have HTO:=AP hto;have hsz2:=HC2.out.size;have hsz1:=CZ.out.size
   have MQ:Hid (∀y∈Bi.all {b:=G.b,t1:=G.t1,t2:=G.t2,g1:=G.g1,g2:=G.g2,A:=G.A,c:=G.c,vs:=G.vs,Aw:=G.Aw,cw:=G.cw,K:=(w2.heap.size+1)::w2.heap.size::(w.heap.size+1)::w.heap.size::G.K,ib:=G.ib++[w2.heap.size],sg:=G.sg++[sg],Ls:=G.Ls++[L]},y∈G.all\/w.heap.size<=y):=AP (λy hy=>by
    rcases Bi.VE (B:=w.heap.size) (G:={G with K:=w2.heap.size::(w.heap.size+1)::w.heap.size::G.K,ib:=G.ib++[w2.heap.size],sg:=G.sg++[sg],Ls:=G.Ls++[L]}) (x:=w2.heap.size+1) Aa y hy with h1|h1
    ·rcases Bi.AAe (B:=w.heap.size) (G:={G with K:=(w.heap.size+1)::w.heap.size::G.K}) (x:=w2.heap.size) (L:=L) (g:=sg) Aa (λk hk=>by have:=HLN.out k hk;omega) y h1 with h2|h2;exact Bi.Zz (Bc _) Aa y h2;exact .inr h2
    exact .inr h1)
   have HCC:Hid (AZ [] w ((w2.alloc (.cells #[.pointer (AA ⟨sg,0,AB⟩)] 126)).alloc (.cells #[.pointer (AA ⟨w2.heap.size,0,AB⟩)] 121))):=AP ((CZ.out.Ah HC2.out).Ah hc4);clear hto hF2 hF3 hc4 hx4 hib hin hk2 hj2 hsz2 hsz1;go_wp2;go_ret;exact⟨by rw[HR.out];rfl,by rw[HR.out];exact HTO.out.of HCC.out rfl MQ.out⟩
 (have hb:(E !=0)=true:=by simp[h]);have HR:Hid (S.create d n=(S,E)):=AP (by unfold St.create;rw[HE.out,BZ h]);clear h;go_wp2;go_ret;exact⟨by rw[HR.out];rfl,by rw[HR.out];exact DK.same HF.out CZ.out⟩
end
open Go.ChangeMaps Go.MapKept
section
variable {g g':NM}{B i:Nat}{S:St}{α:Type}{e k:Am}{w:AL}
def Jl {κ:Type} (w:AL) (b r:Nat) (kv:κ->AQ) (m todo:List (κ×AQ)):Prop:=
 ∃es clock since seen c0,w.heap[b]? =AA (.map es clock)/\es.toList.map (λe=>(e.key,e.val))=m.map (λp=>(kv p.1,p.2))/\(m.map Ac).Nodup/\(es.toList.map (·.born)).Nodup/\(∀e∈es.toList,e.born<clock)/\
  w.heap[r]? =AA (.mapIter (AA b) since seen c0)/\(∀x∈es.toList,x.born<since)/\since<=c0/\since<=clock/\(leftOf es seen).toList.map (λe=>(e.key,e.val))=todo.map (λp=>(kv p.1,p.2))
theorem ACt{l:List α}{p:α}(h:l[i]? =AA p):l.Perm (p::l.eraseIdx i):=by
 induction l generalizing i with
 |nil=>simp at h|cons x l ih=>
  cases i with
  |zero=>simp at h;subst h;exact OV _|succ i=>
   simp at h;rw[List.eraseIdx_cons_succ];exact ((ih h).cons x).trans (List.Perm.swap _ _ _)
theorem AAi{l:List Du}{e:Du}(hnb:(l.map (·.born)).Nodup)(hi:l[i]? =AA e):l.filter (λx=>x.born !=e.born)=l.eraseIdx i:=by
 induction l generalizing i with
 |nil=>simp at hi|cons x l ih=>
  rw[BN,II] at hnb
  cases i with
  |zero=>
   simp at hi;subst hi;rw[XC];simp only[bne_self_eq_false,DF,if_false,List.eraseIdx_zero,List.tail_cons];rw[lD];intro y hy;simp only[bne_iff_ne,ne_eq];intro e2;exact hnb.1 (Bv.2 ⟨y,hy,e2⟩)
  |succ i=>
   simp at hi;rw[XC]
   have hx:(x.born !=e.born)=true:=by
    simp only[bne_iff_ne,ne_eq];intro e2;exact hnb.1 (Bv.2 ⟨e,Bq hi,e2.symm⟩)
   rw[BZ hx,List.eraseIdx_cons_succ];congr 1;exact ih hnb.2 hi
section
variable {κ:Type} {w w':AL} {b r:Nat} {kv:κ->AQ} {m todo:List (κ×AQ)} {L:List Nat}
theorem Jl.mp(h:Jl w b r kv m todo):Mp w b kv m:=by
 obtain⟨es,clock,_,_,_,hb,he,hn,hs,hc,_⟩:=h;exact⟨es,clock,hb,he,hn,hs,hc⟩
theorem Jl.lt(h:Jl w b r kv m todo):r<w.heap.size:=by
 obtain⟨es,clock,_,_,_,hb,he,hn,hs,hc,hr,_⟩:=h;exact (Dj.1 hr).1
theorem Jl.Aj(h:Jl w b r kv m todo)(hc:AZ L w w')(h1:b∉L)(h2:r∉L):Jl w' b r kv m todo:=by
 have hl:=h.lt;have hl2:=h.mp.lt;obtain⟨es,clock,since,seen,c0,hb,he,hn,hs,hcl,hr,rest⟩:=h;exact⟨es,clock,since,seen,c0,(hc.block b hl2 h1).trans hb,he,hn,hs,hcl,(hc.block r hl h2).trans hr,rest⟩
theorem Jl.left_eq(h:Jl w b r kv m todo):w.rangeLeft b r=todo.length:=by
 obtain⟨es,clock,since,seen,c0,hb,_,_,_,_,hr,_,_,_,hl⟩:=h;simp only[World.rangeLeft,hb,hr];have:=congrArg Ky hl;simpa using this
theorem Jl.ne(h:Jl w b r kv m todo):r≠b:=by
 obtain⟨es,clock,since,seen,c0,hb,_,_,_,_,hr,_⟩:=h;intro e;rw[e,hb] at hr;cases hr
theorem Jl.start{P:BL}{t:Am}(h:Mp w b kv m)(ht:P.underlying t=AA (.map k e)):
  ∃w',(Instr.range t (.map (AA b))).run P w=.ok (.pointer (AA ⟨w.heap.size,0,AB⟩)) w'/\Jl w' b w.heap.size kv m m/\AZ [] w w'/\w'.heap.size=w.heap.size+1:=by
 have hl:=h.lt;obtain⟨es,clock,hb,he,hn,hs,hc⟩:=h;refine⟨_,run_range_map w t k e b es clock ht hb,⟨es,clock,clock,#[],clock,((MapKept.heap_alloc w _).2 b hl).trans hb,he,hn,hs,hc,(MapKept.heap_alloc w _).1,hc,Bc _,Bc _,?_⟩,(AZ.refl _ _).alloc _,AV⟩;(have:leftOf es #[]=es:=by simp[leftOf]);rw[this,he]
theorem Jl.step{P:BL}(h:Jl w b r kv m todo)(ty:Am):
  (todo=[]/\(Instr.next (.pointer (AA ⟨r,0,AB⟩)) false ty).run P w=.ok (.tuple #[.bool false]) w)\/
  ∃k v todo' w',(todo.Perm ((k,v)::todo'))/\(Instr.next (.pointer (AA ⟨r,0,AB⟩)) false ty).run P w=.ok (.tuple #[.bool true,kv k,v]) w'/\
   Jl w' b r kv m todo'/\AZ [r] w w'/\(Instr.entry (.pointer (AA ⟨r,0,AB⟩))).run P w'=.ok (.tuple #[kv k,v]) w':=by
 have hne:=h.ne;obtain⟨es,clock,since,seen,c0,hb,he,hn,hs,hc,hr,hold,hsc,hsk,hl⟩:=h;rcases run_next_at (P:=P) w ty r b since c0 seen es clock hr hb hold hsc with ⟨h0,hrun⟩|⟨e,AOe,w1,hal,hrun⟩
 ·left;refine⟨?_,hrun⟩;have:=congrArg Ky hl;simp only[DY,WM] at this;exact Tf Aa
 right;have hem:=mem_left AOe;obtain⟨i,hi⟩:=RP AOe;have hil:i<(leftOf es seen).toList.length:=(CP.1 hi).1;have hlen:=congrArg Ky hl;simp only[DY] at hlen;obtain⟨p,hp⟩: ∃p,todo[i]? =AA p:=⟨_,CB Aa⟩
 have hkv:(e.key,e.val)=(kv p.1,p.2):=by
  have:=congrArg (λl=>l[i]?) hl;simp only[Bg,hi,hp,Fq] at this;exact EI this
 have hnb:((leftOf es seen).toList.map (·.born)).Nodup:=by
  unfold leftOf;rw[eY];exact hs.sublist (List.filter_sublist.map _)
 (have hr1:w1.heap[r]? =AA (.mapIter (AA b) since seen c0):=by rcases hal with rfl|rfl<;>exact hr);(have hb1:w1.heap[b]? =AA (.map es clock):=by rcases hal with rfl|rfl<;>exact hb);have hset:=heap_set (o':=.mapIter (AA b) since (seen.push e.born) clock) hr1;have hb':(setBlock w1 r (.mapIter (AA b) since (seen.push e.born) clock)).heap[b]? =AA (.map es clock):=(hset.2 b (λe1=>hne e1.symm)).trans hb1
 have hleft:(leftOf es (seen.push e.born)).toList=(leftOf es seen).toList.eraseIdx i:=by
  have e1:(leftOf es (seen.push e.born)).toList=(leftOf es seen).toList.filter (λx=>x.born !=e.born):=by
   unfold leftOf;rw[eY,eY,List.filter_filter];refine lG λx _=>?_;rw[contains_push];cases seen.contains x.born<;>cases hxe:(x.born==e.born)<;>simp[bne,hxe]
  rw[e1];exact AAi hnb hi
 (have ATu:i<todo.length:=by omega);(have hpe:todo[i]=p:=by rw[CB ATu] at hp;exact EI hp);injection hkv with hk1 hk2;refine⟨p.1,p.2,todo.eraseIdx i,_,?_,by rw[hrun,hk1,hk2],⟨es,clock,since,seen.push e.born,clock,hb',he,hn,hs,hc,hset.1,hold,hsk,hsk,?_⟩,?_,?_⟩;exact ACt hp;rw[hleft,<- Sv,<- Sv,hl]
 ·rcases hal with rfl|rfl<;>exact⟨rfl,rfl,rfl,by simp[setBlock],λi _ hi=>hset.2 i (λe1=>hi (by simp[e1]))⟩
 rw[<- hk1,<- hk2];exact run_entry_at _ r b since seen es clock e hset.1 hb' hem.1 hs
end
section
variable {P:BL} {κ:Type} {w:AL} {ops:Array BU} {rest:List BU} {o:BU} {a:Act} {Q:Exit->Act->AL->Prop} {b r:Nat} {kv:κ->AQ} {m todo:List (κ×AQ)}
theorem Pq(hg:o.guard=AB)(x:DU)(t:Am)(hop:o.op=Op.range t x)(ht:P.underlying t=AA (.map k e))(hx:a.eval x=.map (AA b))(h:Mp w b kv m)
  (hK: ∀w',Jl w' b w.heap.size kv m m->AZ [] w w'->w'.heap.size=w.heap.size+1->wpList P ops Q rest (a.put o.dst (.pointer (AA ⟨w.heap.size,0,AB⟩))) w'):wpList P ops Q (o::rest) a w:=by
 refine wpList_plain hg λK' hK'=>?_;obtain⟨w',hrun,r1,r2,r3⟩:=Jl.start (P:=P) h ht;unfold Oper.wp;simp[BI,hop,hx,hrun,QU];exact hK' _ _ (hK w' r1 r2 r3)
theorem Qy(hg:o.guard=AB)(it:DU)(hop:o.op=Op.next it false)(hit:a.eval it=.pointer (AA ⟨r,0,AB⟩))(h:Jl w b r kv m todo)
  (hDone:todo=[]->wpList P ops Q rest (a.put o.dst (.tuple #[.bool false])) w)
  (hMore: ∀(k:κ) (v:AQ) (todo':List (κ×AQ)) (w':AL),todo.Perm ((k,v)::todo')->Jl w' b r kv m todo'->AZ [r] w w'->
   (Instr.entry (.pointer (AA ⟨r,0,AB⟩))).run P w'=.ok (.tuple #[kv k,v]) w'->wpList P ops Q rest (a.put o.dst (.tuple #[.bool true,kv k,v])) w'):wpList P ops Q (o::rest) a w:=by
 refine wpList_plain hg λK' hK'=>?_;unfold Oper.wp;rcases h.step (P:=P) o.type with ⟨h0,hrun⟩|⟨k,v,todo',w',hp,hrun,ATv,hch,hen⟩
 ·simp[BI,hop,hit,hrun,QU];exact hK' _ _ (hDone h0)
 simp[BI,hop,hit,hrun,QU];exact hK' _ _ (hMore k v todo' w' hp ATv hch hen)
end
def AAj (g g':NM):Prop:=∀k,(BK g' k).map (·.2)=(BK g k).map (·.2)
theorem D8.copied{ib:List Nat}{T:Tr}(h:D8 ib g T)(hc:AAj g g'):D8 ib g' T:=by
 refine⟨λk=>?_,λk d F hd hF n=>?_⟩
 ·have:=congrArg Option.isSome (hc k);rw[yf,yf] at this;rw[this];exact h.top k
 have:=hc k;rw[hd] at this
 cases hg:BK g k with
 |none=>rw[hg] at this;cases this|some e=>
  rw[hg] at this;simp only[Fq,DR] at this;rw[this];exact h.sub k e F hg hF n
theorem AFR(hn:(g.map Ac).Nodup)(_:(g'.map Ac).Nodup)(h1: ∀p∈g',∃q∈g,q.1=p.1/\q.2.2=p.2.2)(h2:(g'.map Ac).Perm (g.map Ac)):AAj g g':=by
 intro k
 cases hk:BK g' k with
 |none=>
  have:k∉g.map Ac:=λh=>(Eh.1 hk) (h2.mem_iff.2 h);rw[Eh.2 this]
 |some e=>
  obtain⟨q,hq,e1,e2⟩:=h1 _ (CQ hk);have:=Ri hn (show (k,q.2)∈g by rw[<- show q.1=k from e1];exact hq);rw[this];simp only[Fq,DR];exact e2.symm
theorem AHv{κ:Type}[DecidableEq κ]{t:List (κ×α)}{k:κ}(h:k∉t.map Ac)(v:α):Dq t k v=t++[(k,v)]:=by
 unfold Dq;rw[Sz.2 h]
theorem Xp(w:AL)(tb:Nat)(g:NM)(h:Tree w tb g):
  Au Ag 54 #[.map (AA tb)] w λe w'=>∃ob g',e=.returned (.map (AA ob))/\Tree w' ob g'/\(∀x∈Ea ob g',w.heap.size<=x)/\AZ [] w w'/\AAj g g':=by
 have HT:=AP h;have hmm:= @run_makeMap Ag;have hal:AZ [] w (w.alloc (.map #[] 0)):=(AZ.refl _ _).alloc _;have hmp:=h.top.Aj hal BH;have HM:Hid (Mp (w.alloc (.map #[] 0)) w.heap.size IZ []):=AP (Mp.made w IZ);clear h hal;have k86:= @ATW;go_enter ANr,Tryz.ntmps54;go_wp2_with (at_range;refine Pq rfl _ _ rfl I4 rfl hmp ?_;intro w0 hit0 hc0 hs0)
 go_frame
 obtain⟨ob,hob⟩: ∃ob,w.heap.size=ob:=⟨_,rfl⟩;obtain⟨r,hr⟩: ∃r,(w.alloc (.map #[] 0)).heap.size=r:=⟨_,rfl⟩;rw[hr] at hit0;have hc1:AZ [] w w0:=((AZ.refl [] w).alloc _).Ah hc0;(have hm0:Mp w0 ob IZ []:=by rw[<- hob];exact HM.out.Aj hc0 BH);rw[hr,hob];(have hrl:w.heap.size<=r:=by rw[<- hr];simp);(have hne:r∉[ob]:=by rw[<- hr,<- hob];simp);(have hnt:r∉Ea tb g:=λhm=>by have:=HT.out.lt r hm;rw[<- hr] at this;simp at this;omega);(have hol:w.heap.size<=ob:=by omega);(have hot:tb≠ob:=by have:=HT.out.top.lt;omega);have HA:=AP (show w.heap.size<=r/\r∉[ob]/\r∉Ea tb g/\w.heap.size<=ob/\tb≠ob from ⟨hrl,hne,hnt,hol,hot⟩);clear hrl hne hnt hol hot;go_loopw [4] (λ_ wr=>∃done todo g',Jl wr tb r IZ (FD g) todo/\(done++todo).Perm (FD g)/\Tree wr ob g'/\(∀x∈Ea ob g',w.heap.size<=x)/\AZ [] w wr/\(∀p∈g',∃q∈g,q.1=p.1/\q.2.2=p.2.2)/\g'.map Ac=done.map Ac) (λ_ wr=>wr.rangeLeft tb r)
 case atStart=>
  exact⟨[],FD g,[],hit0,OV _,⟨hm0,AV,AV⟩,by simp[Ea];exact HA.out.2.2.2.1,hc1,AV,rfl⟩
 obtain⟨done,todo,g',hit,hperm,htr,hnew,hch,hcp,hks⟩:=hrel;have HP:=AP hperm;have kM:=AP htr;have HN:=AP hnew;have DX:=AP hch;have gu:=AP hcp;have HKS:=AP hks;have HIT:=AP hit;clear hperm htr hnew hch hcp hks;go_wp2_with (at_next;refine Qy rfl _ rfl rfl hit ?_ ?_)
 ·intro hdone;have HD:=AP hdone;clear hdone;go_wp2;go_ret;have hp:=HP.out;rw[HD.out,I9] at hp;have hn:=kM.out.nodup;refine⟨ob,g',rfl,kM.out,HN.out,DX.out,AFR HT.out.nodup hn gu.out ?_⟩;rw[HKS.out,<- Po];exact hp.map _
 intro k v todo' w1 hp AGg VG hen;have hkv:(k,v)∈FD g:=HP.out.mem_iff.1 (Hg _ (hp.mem_iff.2 (D7 ..)));obtain⟨q,hq,hqe⟩:=Bv.1 hkv;injection hqe with hq1 hq2;subst hq1;subst hq2
 have hkn:q.1∉g'.map Ac:=by
  rw[HKS.out];intro hm;have hnd:=(HP.out.map Ac).nodup_iff.2 (by rw[Po];exact HT.out.nodup);rw[Ey,QD] at hnd;exact hnd.2.2 _ hm _ (((hp.map Ac).mem_iff).2 AV) rfl
 have hne1:=HIT.out.ne;have AFS:AZ [] w w1:=DX.out.trans VG (λx hx=>by simp only[CJ] at hx;subst hx;exact .inr HA.out.1);have hsub:=(HT.out.sub q hq).Aj AFS BH
 have AOf:=kM.out.keep VG (λx hx hm=>by
  simp only[CJ] at hm;subst hm;rcases BD.1 hx with rfl|hx;exact HA.out.2.1 AV;obtain⟨p,hp',rfl⟩:=Bv.1 hx;have h1:=(kM.out.sub p hp');obtain⟨es,c,hb,_⟩:=h1;obtain⟨_,_,_,_,_,_,_,_,_,_,hbr,_⟩:=HIT.out
  rw[hb] at hbr;cases hbr)
 have WX:=AP hsub;have HPP:=AP hp;have HKN:=AP hkn;have CZ:=AP AFS;have dJ:=AP AOf;have xI:=AP AGg;have HQ:=AP hq;clear hp hkv hkn VG AFS AOf hq hit hsub;(go_wp2_with fail);refine (ACh w1 q.2.1 _ WX.out).mono ?_;rintro e w2 ⟨rfl,hm2,hc2⟩;obtain⟨w3,hu,hm3,hc3⟩:=Mp.update (dJ.out.top.Aj hc2 BH) (DC LC) I4 q.1 (.map (AA w1.heap.size));have qP:AZ [ob] w1 w3:=(hc2.nil [ob]).trans hc3 (λx hx=>.inl hx);have hlo:=dJ.out.top.lt;(have hwo:w1.heap.size≠ob:=by omega);have hro:=HA.out.2.1;have ATw:=AP (Tree.put (d:=q.1) (fb:=w1.heap.size) (f:=q.2.2) dJ.out.nodup dJ.out.sub dJ.out.apart qP hm3 (hm2.Aj hc3 (by simpa using hwo)) (by simpa using hwo) (λp hp _=>by have:=(dJ.out.sub p hp).lt;omega) (λp hp _=>by simpa using dJ.out.L8 hp));have hlt:=xI.out.lt;have AGh:=AP (xI.out.Aj qP (by simpa using HA.out.2.2.2.2) hro);have Ff:Hid (AZ [] w w3):=AP (CZ.out.trans qP (λx hx=>by simp only[CJ] at hx;subst hx;exact .inr HA.out.2.2.2.1));have Qz:Hid (w.heap.size<=w1.heap.size):=AP CZ.out.size;clear hm2 hc2 hm3 hc3 qP hlo hwo hro hlt hne1;go_wp2;go_roundw
 case rel=>
  refine⟨done++[(q.1,Value.map (AA q.2.1))],todo',Dq g' q.1 (w1.heap.size,q.2.2),AGh.out,?_,ATw.out,?_,Ff.out,?_,?_⟩
  ·rw[Jo];exact (aY done HPP.out.symm).trans HP.out
  ·intro x hx;rcases OC (B:=w.heap.size) dJ.out.nodup (.inr Qz.out) x hx with h|h;exact HN.out x h;exact h
  ·intro p hp;rcases (J8 dJ.out.nodup).1 hp with rfl|⟨hp,_⟩;exact⟨q,HQ.out,rfl,rfl⟩;exact gu.out p hp
  rw[AHv HKN.out,Ey,Ey,HKS.out];rfl
 have h1:=AGh.out.left_eq;have h2:=HIT.out.left_eq;have h3:=HPP.out.length_eq;rw[h1,h2,h3];simp
def UI {α:Type} (c:α->Nat) (F:List (ByteArray×α)) (ks:List ByteArray):Nat:=(ks.map λn=>((BK F n).map c).getD 0).sum
theorem Pv{c:α->Nat}{F:List (ByteArray×α)}{a b:List ByteArray}(h:a.Perm b):UI c F a=UI c F b:=(h.map _).sum_nat
theorem MC{c:α->Nat}{F:List (ByteArray×α)}(a b:List ByteArray):UI c F (a++b)=UI c F a+UI c F b:=by simp[UI]
theorem Yd{c:α->Nat}{F:List (ByteArray×α)}{n:ByteArray}{x:α}(h:BK F n=AA x):UI c F [n]=c x:=by simp[UI,h]
theorem xJ(c:α->Nat){F:List (ByteArray×α)}(hn:(F.map Ac).Nodup):UI c F (F.map Ac)=(F.map λq=>c q.2).sum:=by
 unfold UI;rw[Eo];congr 1;refine Hu λq hq=>?_;simp only[Function.comp];rw[LX hn hq];rfl
theorem ACu(l:List α)(f:α->Nat)(M:Nat)(h: ∀x∈l,f x<=M):(l.map f).sum<=l.length*M:=by
 induction l with
 |nil=>simp|cons x r ih=>
  simp only[BN,CE,EU];have h1:=h x AV;have h2:=ih (λy hy=>h y (CO _ hy));rw[ku,Nat.one_mul];omega
def St.len (S:St) (i:Nat):Nat:=(S.bytes i).length
def St.ZG (S:St) (F:Jv):Nat:=(F.map λq=>S.len q.2).sum
theorem Inv.len{B:Nat}{S:St}(h:Inv B S)(i:Nat):S.len i<=B:=by
 unfold St.len St.bytes;rw[Gj]
 cases hf:S.files[i]? with
 |none=>simp[Ee.all]|some f=>
  have h1:=AGd (Bq hf);have h2:=h.bulk;simp only[Dx];omega
theorem ACv(hd:S.down=false):S.used=(S.seen.map λp=>S.ZG p.2).sum:=by
 unfold St.used St.view bytesOf;rw[BM (by simp[hd]),Eo];congr 1;refine Hu λp _=>?_;simp only[Function.comp];rw[Eo];rfl
theorem AAk(h:Inv B S)(T:Tr):(T.map λp=>S.ZG p.2).sum<=wd T*B:=by
 unfold wd
 induction T with
 |nil=>simp|cons p r ih=>
  simp only[BN,CE,ku];have h1:S.ZG p.2<=p.2.length*B:=ACu _ _ B (λq _=>h.len q.2);omega
theorem ACw(h:Inv B S):S.used<=B*B:=by
 cases hd:S.down with
 |true=>unfold St.used St.view;rw[BZ hd];simp[bytesOf]|false=>
  rw[ACv hd];exact CY (AAk h S.seen) (Td _ h.wd)
theorem EH.ARy{G:Bi}(h:EH w G S)(hi:i<S.files.length): ∃g,Bl w (EG G.ib i) 126 #[.pointer (AA ⟨g,0,AB⟩)]/\Au Ag 181 #[.pointer (AA ⟨g,0,AB⟩)] w (λe w'=>e=.returned (.int .i64 (S.len i:Nat))/\w'=w):=by
 have hf:S.files[i]? =AA S.files[i]:=CB hi;obtain⟨x,g,L,h1,h2,h3,h4,h5⟩:=h.at_ hf;refine⟨g,by rw[AAd h1];exact h4,size_any g L _ _ w h5 _ ?_⟩;unfold St.len St.bytes;rw[Gj,hf];simp[Ee.all]
theorem AKo{G:Bi}(h:EH w G S)(hi:Inv B S)(hB:B<=1073741824):
  Au Ag 179 #[.pointer (AA ⟨G.b,0,AB⟩)] w λe w'=>e=.returned (.int .i64 (S.used:Int))/\AZ [] w w':=by
 have HF:=AP h;have HI:=AP hi
 have hU:S.used<=1152921504606846976:=by
  have h1:=ACw hi;have h2:B*B<=1073741824*1073741824:=AFx hB hB;omega
 have HU:=AP hU;clear h hi hB hU;have k61:= @AKP;have AVC:= @AQ0;go_enter AKE,Tryz.ntmps179;(go_wp2_with fail);refine (ACp HF.out).mono ?_;rintro e w1 ⟨rfl,hc1⟩;have CZ:=AP hc1
 cases hd:S.down with
 |true=>
  have HR:Hid (S.used=0):=AP (by unfold St.used St.view;rw[BZ hd];rfl);clear hc1 hd;go_wp2;go_ret;exact⟨by rw[HR.out];rfl,CZ.out⟩
 |false=>
  have HR:Hid (S.used=(S.seen.map λp=>S.ZG p.2).sum):=AP (ACv hd);have Gf:=AP (HF.out.CX hc1);have h0:=Gf.out.blk.cell 0;simp at h0;have hmp:=Gf.out.Fg.top;clear hc1 hd;go_wp2_with (at_range;refine Pq rfl _ _ rfl I4 rfl hmp ?_;intro w0 hit0 hc0 hs0)
  go_frame
  obtain⟨r,hr⟩: ∃r,w1.heap.size=r:=⟨_,rfl⟩;rw[hr] at hit0⊢;have TF:Hid (AZ [] w w0):=AP (CZ.out.Ah hc0);have HRR:Hid (w.heap.size<=r):=AP (by rw[<- hr];exact CZ.out.size);clear hr hs0 hc0 h0 hmp
  have htot:UI S.ZG S.seen (G.g1.map Ac)=S.used:=by
   rw[HR.out,Pv (HF.out.MB.keys HF.out.Fg.nodup HI.out.val.Uh),xJ _ HI.out.val.Uh.nodup]
  have AOg:=AP htot;clear htot;go_loopw [2,4] (λs _ wr=>∃done todo,∃N:Nat,s=.int .i64 N/\Jl wr G.t1 r IZ (FD G.g1) todo/\(done++todo).Perm (FD G.g1)/\AZ [] w wr/\N=UI S.ZG S.seen (done.map Ac)) (λ_ _ wr=>wr.rangeLeft G.t1 r)
  case atStart=>exact⟨[],FD G.g1,0,rfl,hit0,OV _,TF.out,rfl⟩
  obtain⟨done,todo,N,rfl,hit,hperm,hch,hN⟩:=hrel;have HP:=AP hperm;have DX:=AP hch;have HN:=AP hN;have HIT:=AP hit;clear hperm hch hN;go_wp2_with (at_next;refine Qy rfl _ rfl rfl hit ?_ ?_)
  ·intro hdone;have HD:=AP hdone;clear hdone;go_wp2;go_ret;have hp:=HP.out;rw[HD.out,I9] at hp;refine⟨?_,DX.out⟩;rw[HN.out,Pv (hp.map Ac),Po,AOg.out];rfl
  intro k v todo' w2 hp AGg VG hen;have hkv:(k,v)∈FD G.g1:=HP.out.mem_iff.1 (Hg _ (hp.mem_iff.2 (D7 ..)));obtain⟨q,hq,hqe⟩:=Bv.1 hkv;injection hqe with hq1 hq2;subst hq1;subst hq2;have hgq:=LX HF.out.Fg.nodup hq
  obtain⟨F,hF⟩: ∃F,BK S.seen q.1=AA F:=by
   have:=HF.out.MB.top q.1;rw[hgq] at this;exact AFy.1 this.symm
  have hsub:=HF.out.MB.sub _ _ _ hgq hF;have hSF:OI F:=HI.out.val.sub _ (CQ hF)
  have hall:UI S.len F ((q.2.2).map Ac)=S.ZG F:=by
   rw[Pv (gp hsub (HF.out.Fg.SC hq) hSF),xJ _ hSF.nodup];rfl
  have hle:N+S.ZG F<=S.used:=by
   have e1:=Pv (c:=S.ZG) (F:=S.seen) (((aY done hp.symm).trans HP.out).map Ac);rw[Po,AOg.out,Ey,BN,MC] at e1;rw[show (q.1::todo'.map Ac)=[q.1]++todo'.map Ac from rfl,MC,Yd hF] at e1;have:=HN.out;omega
  have hC2:AZ [] w w2:=DX.out.trans VG (λx hx=>by simp only[CJ] at hx;subst hx;exact .inr HRR.out);have hmq:=(HF.out.Fg.sub q hq).Aj hC2 BH;have HC2:=AP hC2;have WX:=AP hsub;have MQ:=AP hall;have HLE:=AP hle;have HPP:=AP hp;have xI:=AP AGg;have Ws:=AP hF;have HQ:=AP hq;clear hkv hgq hF hsub hSF hall hle hC2 hp hit AGg VG hq;go_wp2_with (at_range;refine Pq rfl _ _ rfl PY rfl hmq ?_;intro w3 hit3 hc3 hs3)
  go_frame
  obtain⟨r2,hr2⟩: ∃r2,w2.heap.size=r2:=⟨_,rfl⟩;rw[hr2] at hit3⊢;have Ff:Hid (AZ [] w w3):=AP (HC2.out.Ah hc3)
  have HR2:Hid (w.heap.size<=r2/\r≠r2/\G.t1≠r2):=AP (by
   have h1:=HC2.out.size;have h2:=xI.out.lt;have h3:=xI.out.mp.lt
   refine⟨Aa,Aa,Aa⟩)
  have AGh:Hid (Jl w3 G.t1 r IZ (FD G.g1) todo'):=AP (xI.out.Aj hc3 BH BH);clear hr2 hs3 hc3 hmq hen;go_loopw [2,6] (λs _ wr=>∃done2 AFT,∃M:Nat,s=.int .i64 ((N+M:Nat):Int)/\Jl wr q.2.1 r2 IZ (Iu q.2.2) AFT/\Jl wr G.t1 r IZ (FD G.g1) todo'/\(done2++AFT).Perm (Iu q.2.2)/\AZ [] w wr/\M=UI S.len F (done2.map Ac)) (λ_ _ wr=>wr.rangeLeft q.2.1 r2)
  case atStart=>exact⟨[],Iu q.2.2,0,rfl,hit3,AGh.out,OV _,Ff.out,rfl⟩
  obtain⟨done2,AFT,M,rfl,AKp,AOh,AGi,AOi,hM⟩:=hrel;have HP2:=AP AGi;have AOj:=AP AOi;have HM:=AP hM;have ATx:=AP AKp;have AKq:=AP AOh;clear AGi AOi hM AOh;go_wp2_with (at_next;refine Qy rfl _ rfl rfl AKp ?_ ?_)
  ·intro hdone;have HD:=AP hdone;clear hdone;go_wp2;go_roundw
   case rel=>
    refine⟨done++[(q.1,Value.map (AA q.2.1))],todo',N+M,rfl,AKq.out,(Jo done _ _▸(aY done HPP.out.symm).trans HP.out),AOj.out,?_⟩;have hp2:=HP2.out;rw[HD.out,I9] at hp2;rw[Ey,MC,BN,EJ,Yd Ws.out,HM.out,Pv (hp2.map Ac),SB,MQ.out,HN.out]
   have h1:=AKq.out.left_eq;have h2:=HIT.out.left_eq;have h3:=HPP.out.length_eq;rw[h1,h2,h3];simp
  intro k2 v2 AAl w4 hp2 AOl AKr AVD;have AOm:(k2,v2)∈Iu q.2.2:=HP2.out.mem_iff.1 (Hg _ (hp2.mem_iff.2 (D7 ..)));obtain⟨p,hp,hpe⟩:=Bv.1 AOm;injection hpe with hp1 hpv;subst hp1;subst hpv;have hgp:=LX (HF.out.Fg.SC HQ.out) hp
  obtain⟨i,hi,hix⟩: ∃i,BK F p.1=AA i/\EG G.ib i=p.2:=by
   have:=WX.out p.1;rw[hgp] at this
   cases hFi:BK F p.1 with|none=>rw[hFi] at this;cases this|some i=>rw[hFi] at this;injection this with this;exact⟨i,rfl,this.symm⟩
  have hil:=HI.out.val.ids _ (CQ Ws.out) _ (CQ hi);have hC4:AZ [] w w4:=AOj.out.trans AKr (λx hx=>by simp only[CJ] at hx;subst hx;exact .inr HR2.out.1);obtain⟨sg,hb4,hsz⟩:=(HF.out.CX hC4).ARy hil;rw[hix] at hb4;have c0:=hb4.cell 0;simp at c0
  have hle2:M+S.len i<=S.ZG F:=by
   have e1:=Pv (c:=S.len) (F:=F) (((aY done2 hp2.symm).trans HP2.out).map Ac);rw[SB,MQ.out,Ey,BN,MC] at e1;rw[show (p.1::AAl.map Ac)=[p.1]++AAl.map Ac from rfl,MC,Yd hi] at e1;have:=HM.out;omega
  have hwr:wrap64 ((N:Int)+(M:Int)+(S.len i:Nat))=((N+(M+S.len i):Nat):Int):=by
   have h1:=HLE.out;have h2:=HU.out;unfold wrap64;omega
  have HWR:=AP hwr;clear hwr;have JD:=AP hC4;have HP5:=AP hp2;have AOn:=AP AOl;have ATy:Hid (Jl w4 G.t1 r IZ (FD G.g1) todo'):=AP (AKq.out.Aj AKr (by simpa using HR2.out.2.2) (by simpa using HR2.out.2.1));have HII:=AP hi;have Qz:=AP hsz;clear AOm hgp hi hix hil hC4 hb4 hle2 hp2 AKp AOl AKr hp hsz;(go_wp2_with fail);refine Qz.out.mono ?_;rintro e w5 ⟨rfl,rfl⟩;go_wp2;go_roundw
  case rel=>
   refine⟨done2++[(p.1,QW (AA ⟨p.2,0,AB⟩))],AAl,M+S.len i,(congrArg (Kw .i64) HWR.out),AOn.out,ATy.out,(Jo done2 _ _▸(aY done2 HP5.out.symm).trans HP2.out),JD.out,?_⟩;rw[Ey,MC,BN,EJ,Yd HII.out,HM.out]
  have h1:=AOn.out.left_eq;have h2:=ATx.out.left_eq;have h3:=HP5.out.length_eq;rw[h1,h2,h3];simp
end
section
variable {ib:List Nat}{B i:Nat}{S:St}{w w0:AL}
def dK (e:Am) (w:AL) (xs:List AQ) (n:Nat) (code:Int) (en:FT) (w':AL):Prop:=
 ∃A c,en=.returned (.tuple #[.slice A n c,.int .i64 code])/\Own w' e 1 A n c xs/\AZ [] w w'/\∀k∈bo A,w.heap.size<=k
theorem Lay.others{Ps:List (List Nat)}(h:Lay w Ps){L:List Nat}{is:List Nat}(hL: ∀x∈L,∃j P,j∈is/\Ps[j]? =AA P/\x∈P){P:List Nat}(hi:Ps[i]? =AA P)(hn:i∉is): ∀x∈P,x∉L:=by
 intro x hx hm;obtain⟨j,Q,hj,hQ,hxq⟩:=hL x hm;exact h.ne hi hQ (λe=>hn (e▸hj)) x hx hxq
theorem jX:S.names=if S.ask false []≠0 then (S,S.ask false []) else ({S with safe:=S.seen,ED:=[],steps:=S.steps+1},0):=by
 unfold St.names St.ask;cases hd:S.down<;>simp
theorem xK{G:Bi}(h:EH w G S)(hi:Inv B S)(hB:B<=1073741824):
  Au Ag 50 #[.pointer (AA ⟨G.b,0,AB⟩)] w λe w'=>e=.returned (.int .i64 S.names.2)/\DK w G S.names.1 w':=by
 have HF:=AP h;have HI:=AP hi;(have hwt:IntKind.i64.wrap ((S.steps:Int)+1)=((S.steps+1:Nat):Int):=by have:=hi.st;rw[NZ];omega);clear h hi hB;have k54:= @AKO;have k70:= @jS;go_enter ANn,Tryz.ntmps50;(go_wp2_with fail);refine (Vt HF.out false AB 0 0 [] (Rd.nil w 1) Ar AV).mono ?_;rintro e w1 ⟨rfl,hc1⟩;have CZ:=AP hc1;obtain⟨E,hE⟩: ∃E,S.ask false []=E:=⟨_,rfl⟩;rw[hE];have HE:=AP hE;clear hE;by_cases h:E=0
 ·subst h;have Gf:=AP (HF.out.CX hc1);have h0:=Gf.out.blk.cell 0;simp at h0;have HR:Hid (S.names=({S with safe:=S.seen,ED:=[],steps:=S.steps+1},0)):=AP (by rw[jX,BM (by rw[HE.out];simp)]);clear hc1;(go_wp2_with fail);refine (Xp w1 G.t1 G.g1 Gf.out.Fg).mono ?_;rintro e w2 ⟨ob,g',rfl,htr,hnew,hc2,hcp⟩;have HF2:=AP (Gf.out.CX hc2);have c1:=HF2.out.blk.frozen 1;have x1:=HF2.out.blk.cell 1;have x2:=HF2.out.blk.cell 2;simp at x1 x2;have hb2:=HF2.out.blk.FX 1 (.map (AA ob));have c2:=hb2.frozen 2;have hb3:=hb2.FX 2 (.slice AB 0 0);have c6:=hb3.cell 6;have f6:=hb3.frozen 6;have hb4:=hb3.FX 6 (.int .i64 ((S.steps+1:Nat):Int));simp at c6;have HB4:=AP hb4;have kM:=AP htr;have HN:=AP hnew;have HC2:=AP hc2;have gu:=AP hcp;clear htr hnew hc2 hcp hb2 hb3 hb4;go_wp2;go_ret;refine⟨by rw[HR.out];rfl,?_⟩;rw[HR.out];have hF:=HF2.out;obtain⟨w3,hw3⟩: ∃w3,((w2.setCell ⟨G.b,1,AB⟩ (.map (AA ob))).setCell ⟨G.b,2,AB⟩ (.slice AB 0 0)).setCell ⟨G.b,6,AB⟩ (.int .i64 ((S.steps+1:Nat):Int))=w3:=⟨_,rfl⟩;have hb:=HB4.out;(have hch:AZ [G.b] w2 w3:=by rw[<- hw3];exact (((AZ.refl [G.b] w2).setCell (.inl AV) _).setCell (.inl AV) _).setCell (.inl AV) _);have ATz:=hw3;rw[ATz] at hb;show DK w G _ (((w2.setCell ⟨G.b,1,AB⟩ (.map (AA ob))).setCell ⟨G.b,2,AB⟩ (.slice AB 0 0)).setCell ⟨G.b,6,AB⟩ (.int .i64 ((S.steps+1:Nat):Int)));rw[hw3];have hL: ∀x∈[G.b],∃j P,j∈[0]/\G.parts[j]? =AA P/\x∈P:=λx hx=>⟨0,[G.b],AV,rfl,hx⟩;have ho:=λ(i:Nat) (P:List Nat) (hi:G.parts[i]? =AA P) (hne:i∉[0])=>hF.lay.others hL hi hne;have hG2:=Gf.out.lay.FX (w':=w2) (i:=2) (P':=Ea ob g') rfl (λx hx=>.inr (HN.out x hx)) kM.out.lt HC2.out.size;have hG3:=hG2.FX (w':=w3) (i:=3) (P:=bo G.A) (P':=[]) rfl AV AV hch.size;refine⟨{G with t2:=ob,g2:=g',A:=AB,c:=0,vs:=[]},⟨by simpa using hb,hF.Fg.keep hch (ho 1 _ rfl AV),hF.MB,kM.out.keep hch (λx hx hm=>?_),hF.MB.copied gu.out,Own.nil _ _ _,?_,hF.gq.Aj hch (ho 4 _ rfl AV),hF.Qx,hF.Wp,hF.Rk,hF.Zy,hF.Wq,?_,hG3⟩,rfl,?_,?_⟩
  ·exact hG2.ne (i:=2) (j:=0) (P:=Ea ob g') (Q:=[G.b]) rfl rfl Ar x hx hm
  intro i c v e1 e2;simp at e1
  ·intro i x g L f e1 e2 e3 e4;exact (hF.ino i x g L f e1 e2 e3 e4).keep hch (ho 5 _ rfl AV x (hF.Wq x (Bq e1))) (ho (i+6) L (by simpa[Bi.parts] using e3) AV)
  ·intro x hx;obtain⟨P,hP,hx⟩:=KN.1 hx;simp only[Bi.parts,BD] at hP;rcases hP with rfl|rfl|rfl|rfl|hP;exact .inl (Bi.Fh (i:=0) rfl hx);exact .inl (Bi.Fh (i:=1) rfl hx);exact .inr (CY CZ.out.size (HN.out x hx));simp at hx;exact .inl (KN.2 ⟨P,by simp only[Bi.parts,BD];exact .inr (.inr (.inr (.inr hP))),hx⟩)
  exact (((CZ.out.Ah HC2.out).nil [G.b]).trans hch (λx hx=>.inl hx)).mono (λx hx=>.inl (Bi.Fh (i:=0) rfl hx))
 (have hb:(E !=0)=true:=by simp[h]);have HR:Hid (S.names=(S,E)):=AP (by rw[jX,HE.out,BZ h]);clear h;go_wp2;go_ret;exact⟨by rw[HR.out];rfl,by rw[HR.out];exact DK.same HF.out CZ.out⟩
theorem qQ:S.LY=if S.ask false []≠0 then ([],S.ask false []) else (S.seen.map Ac,0):=by
 unfold St.LY St.ask;cases hd:S.down<;>simp
theorem Xq{x:ByteArray}(h:CV x=true):x.size<=ET:=by have:=AFI h;unfold ET;omega
theorem ZH{tb:Nat}{g:NM}{T:Tr}{m:Nat}(ht:Tree w0 tb g)(hi:D8 ib g T)(hv:Val m T)(hl:T.length<=1073741824)(hw:w=w0):
  Au Ag 87 #[.func (.func 124) #[] #[.pointer (AA ⟨w0.heap.size,0,AB⟩)]] (w.alloc (.cells #[.map (AA tb)] 112)) (Lu 9 1 w0 (Pm (T.map Ac)) T.length):=by
 subst hw;have hp:=hi.keys ht.nodup hv.Uh;(have hlen:(FD g).length=T.length:=by have:=hp.length_eq;simpa[FD] using this);have hs:Uh ((FD g).map Ac)=T.map Ac:=AGc (by rw[Po];exact hp) hv.Uh
 have:=AAS w tb (FD g) ht.top (λp hp2=>by
  have:p.1∈T.map Ac:=hp.mem_iff.1 (by rw[<- Po];exact Bv.2 ⟨p,hp2,rfl⟩);obtain⟨q,hq,e⟩:=Bv.1 this
  rw[<- e];exact Xq (hv.nm q hq)) Aa
 rw[hs,hlen] at this;refine this.mono ?_;rintro e w' ⟨A,c,rfl,ho,hc,hn⟩;exact⟨A,c,rfl,ho,(((AZ.refl [] w).alloc _).Ah hc),λk hk=>CY AV (hn k hk)⟩
theorem ZI{fb:Nat}{f:List (ByteArray×Nat)}{F:Jv}(hf:Mp w0 fb IZ (Iu f))(hi: ∀n,BK f n=(BK F n).map (EG ib))(hs:OI F)(hg: ∀q∈F,CV q.1=true)(hl:F.length<=1073741824)(hw:w=w0):
  Au Ag 87 #[.func (.func 125) #[] #[.pointer (AA ⟨w0.heap.size,0,AB⟩)]] (w.alloc (.cells #[.map (AA fb)] 130)) (Lu 9 1 w0 (Pm (F.map Ac)) F.length):=by
 subst hw;(have hn:(f.map Ac).Nodup:=by rw[<- SB];exact hf.nodup);have hp:=gp hi hn hs;(have hlen:(Iu f).length=F.length:=by have:=hp.length_eq;simpa[Iu] using this);have hs:Uh ((Iu f).map Ac)=F.map Ac:=AGc (by rw[SB];exact hp) hs
 have:=AAT w fb (Iu f) hf (λp hp2=>by
  have:p.1∈F.map Ac:=hp.mem_iff.1 (by rw[<- SB];exact Bv.2 ⟨p,hp2,rfl⟩);obtain⟨q,hq,e⟩:=Bv.1 this
  rw[<- e];exact Xq (hg q hq)) Aa
 rw[hs,hlen] at this;refine this.mono ?_;rintro e w' ⟨A,c,rfl,ho,hc,hn⟩;exact⟨A,c,rfl,ho,(((AZ.refl [] w).alloc _).Ah hc),λk hk=>CY AV (hn k hk)⟩
theorem AKs{G:Bi}(h:EH w G S)(hi:Inv B S)(hB:B<=1073741824):
  Au Ag 95 #[.pointer (AA ⟨G.b,0,AB⟩)] w (dK 9 w (Pm S.LY.1) S.LY.1.length S.LY.2):=by
 have HF:=AP h;have HI:=AP hi;have HB:=AP (show S.seen.length<=1073741824 by have:=hi.wd;have:=AAW S.seen;omega);clear h hi hB;have k70:= @jS;have k87:= @AKS;have k88:= @AOU;go_enter AOE,Tryz.ntmps95;(go_wp2_with fail);refine (Vt HF.out false AB 0 0 [] (Rd.nil w 1) Ar AV).mono ?_;rintro e w1 ⟨rfl,hc1⟩;have CZ:=AP hc1;obtain⟨E,hE⟩: ∃E,S.ask false []=E:=⟨_,rfl⟩;rw[hE];have HE:=AP hE;clear hE;by_cases h:E=0
 ·subst h;have Gf:=AP (HF.out.CX hc1);have h0:=Gf.out.blk.cell 0;simp at h0;have HR:Hid (S.LY=(S.seen.map Ac,0)):=AP (by rw[qQ,BM (by rw[HE.out];simp)]);clear hc1;(go_wp2_with fail);refine (qE (AA G.t1) w1).mono ?_;rintro e w2 ⟨rfl,hw2⟩;have HW2:=AP hw2;clear hw2;(go_wp2_with fail);rw[HW2.out];refine (ZH Gf.out.Fg Gf.out.MB HI.out.val HB.out rfl).mono ?_;rintro e w3 ⟨A,c,rfl,ho,hc3,hn3⟩;have HO:=AP ho;have Ff:=AP hc3;have HN3:=AP hn3;clear ho hc3 hn3;go_wp2
  go_ret2
  rw[HR.out];refine⟨A,c,by rw[DY];rfl,by rw[DY];exact HO.out,CZ.out.Ah Ff.out,λk hk=>CY CZ.out.size (HN3.out k hk)⟩
 (have hb:(E !=0)=true:=by simp[h]);have HR:Hid (S.LY=([],E)):=AP (by rw[qQ,HE.out,BZ h]);clear h;go_wp2
 go_ret2
 rw[HR.out];exact⟨AB,0,rfl,Own.nil _ _ _,CZ.out,AV⟩
theorem AKt{G:Bi}(h:EH w G S)(hi:Inv B S)(hB:B<=1073741824)(d:ByteArray):
  Au Ag 97 #[.pointer (AA ⟨G.b,0,AB⟩),.string d] w (dK 9 w (Pm (S.list d).1) (S.list d).1.length (S.list d).2):=by
 have HF:=AP h;have HI:=AP hi;have HB:=AP (show ∀p∈S.seen,p.2.length<=1073741824 from λp hp=>by have:=hi.wd;have:=AAX hp;omega);clear h hi hB;have k70:= @jS;have k87:= @AKS;have k89:= @AOV;go_enter AOG,Tryz.ntmps97;(go_wp2_with fail);have hal:AZ [] w (w.alloc (.cells #[.string d] 9)):=(AZ.refl _ _).alloc _;refine (Vt (HF.out.CX hal) true _ 1 1 [d] (by simpa[Pm] using (Own.lit w 9 1 #[.string d] 1 Ar rfl).rd) Ar AV).mono ?_;rintro e w1 ⟨rfl,hc1⟩;have CZ:=AP (hal.Ah hc1);clear hc1 hal;obtain⟨E,hE⟩: ∃E,S.ask true [d]=E:=⟨_,rfl⟩;rw[hE];have HE:=AP hE;clear hE;by_cases h:E=0
 ·subst h;have Gf:=AP (HF.out.CX CZ.out);obtain⟨F,hF⟩:=(H7 HE.out).2.2 rfl;simp only[Rt] at hF;obtain⟨g,hg,hsub⟩:=HF.out.MB.get hF;have h0:=Gf.out.blk.cell 0;simp at h0;have hl:=(Mp.lookup Gf.out.Fg.top (DC LC) I4 (z:=.map AB) Aq d).1;simp only[Ez,hg,Fq,Dx] at hl;have WX:=AP hsub;have Ws:=AP hF;have HG:=AP hg;have HR:Hid (S.list d=(F.map Ac,0)):=AP (by unfold St.list;rw[BM (by rw[HE.out];simp),FP hF]);clear hsub hF hg;(go_wp2_with fail);refine (qF (AA g.1) w1).mono ?_;rintro e w2 ⟨rfl,hw2⟩;have HW2:=AP hw2;clear hw2;(go_wp2_with fail);rw[HW2.out];refine (ZI (Gf.out.Fg.sub _ (CQ HG.out)) WX.out (HI.out.val.sub _ (CQ Ws.out)) (HI.out.val.nms _ (CQ Ws.out)) (HB.out _ (CQ Ws.out)) rfl).mono ?_;rintro e w3 ⟨A,c,rfl,ho,hc3,hn3⟩;have HO:=AP ho;have Ff:=AP hc3;have HN3:=AP hn3;clear ho hc3 hn3;go_wp2
  go_ret2
  rw[HR.out];refine⟨A,c,by rw[DY];rfl,by rw[DY];exact HO.out,CZ.out.Ah Ff.out,λk hk=>CY CZ.out.size (HN3.out k hk)⟩
 (have hb:(E !=0)=true:=by simp[h]);have HR:Hid (S.list d=([],E)):=AP (by unfold St.list;rw[HE.out,BZ h]);clear h;go_wp2
 go_ret2
 rw[HR.out];exact⟨AB,0,rfl,Own.nil _ _ _,CZ.out,AV⟩
theorem EH.dL{G:Bi}(h:EH w G S)(hi:i<S.files.length): ∃g L,G.Ls[i]? =AA L/\Bl w (EG G.ib i) 126 #[.pointer (AA ⟨g,0,AB⟩)]/\Wn w g L (S.files.getD i ([],[])).1 (S.files.getD i ([],[])).2/\G.sg[i]? =AA g/\G.ib[i]? =AA (EG G.ib i):=by
 have hf:S.files[i]? =AA S.files[i]:=CB hi;obtain⟨x,g,L,h1,h2,h3,h4,h5⟩:=h.at_ hf;refine⟨g,L,h3,by rw[AAd h1];exact h4,?_,h2,by rw[AAd h1];exact h1⟩;rw[Gj,hf];exact h5
theorem Inv.Eb(h:Inv B S)(i:Nat):(S.files.getD i ([],[])).1.length+(S.files.getD i ([],[])).2.flatten.length<=B/\(S.files.getD i ([],[])).2.length<=B:=by
 rw[Gj]
 cases hf:S.files[i]? with
 |none=>simp|some f=>
  have h1:=AGd (Bq hf);have h2:=h.bulk;simp only[Dx,Ee.all,Gz] at h1⊢;omega
theorem lX(h:Inv B S){d n:ByteArray}{x:Nat}{e:Int}(hf:S.Ov d n=(AA x,e)):x<S.files.length:=by
 obtain⟨_,_,F,hF,hx⟩:=VF hf;exact h.val.ids _ (CQ hF) _ (CQ hx)
end
end Go.Proofs.YtkkgcebhfghdnaaGreatDoor.Vw
