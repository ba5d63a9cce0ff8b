/- Part 5 of what that rests on; no condition. -/
import Derived.Test.YtkkgcebhfghdnaaGreatDoorMc
import Derived.BigQuiet
import Derived.ChangeSame
import Derived.Deep.AppendLies
import Derived.Deep.Draws
import Derived.Deep.Fields
import Derived.Deep.QuietTactic
import Derived.Deep.RegionHeld3
import Derived.Deep.RegionLaw
import Derived.Deep.Slices
import Derived.Ground.GgzProg
import Derived.Ground.SlgmProg
import Derived.Ground.SlmcProg
import Derived.JoinedCond
import Derived.KernelRfl
import Derived.Laws.BytesArg
import Derived.Laws.StructEq
import Derived.Lib.AppendZerosOnto
import Derived.Lib.Hide
import Derived.Lib.SmallJoins
import Derived.MapKept
import Derived.Maps.RangeWalk
import Derived.OpenShut
import Derived.ProofKit
import Derived.Shelf.SlGeneric
import Derived.Shelf.SlIter.Nil
import Derived.Shelf.SlMaps.Clone
import Derived.Shelf.SortM.Plain
import Derived.Shelf.SortM.SortNone
import Derived.Sort.KeysCollected
import Derived.Sort.Walk0
import Derived.StillTailTactics
import Derived.StringKeys
import Derived.Test.YtkkgcebhfghdnaaGreatDoorChecked
import Derived.Test.YtkkgcebhfghdnaaGreatDoorRows
import Derived.WalkKit
import Derived.WalkSpells
set_option maxRecDepth 100000
set_option maxHeartbeats 8000000
open Go.World renaming block_lt_of_cell?→UT, setCell→YA
open Array renaming length_toList→WJ
open Go.ByteArray renaming toList_eq→Yt
open Go.Builtin renaming firstCells→MP, zeroCells→Nw, append_→Pn, delete_→tq, len_→Un
open Go.Instr renaming keyThatStays→ABD, mapUpdate→jB, checkKey→Uo, sameBits→Qy, findKey→YD, lookup→Po, slice→WC
open Go.Result renaming andThen_ok→Oy, andThen→QJ
open List renaming flatten_cons→Js, length_cons→EY, cons_append→Dn, flatten_nil→mX, foldl_cons→V9, length_nil→Hg, headD_cons→Rj, replicate→MJ, sum_cons→Bz, length→NZ, range→Fp
open List.Pairwise renaming nil→mW
open Option renaming getD_some→Dx, bind_some→WG, map_none→YC, map_some→Fj, none→AB, some→AA
open Go.IntKind renaming wrap_i64→NY
open ByteArray renaming empty→Ku
open Go renaming run_underlying→IK, zeroValue→GY, strOfNums→Fa, MapEntry→Du, typeInfo→I4, callFunc→E8, MemPlace→GZ, Program→BM, Operand→DU, TypeId→Am, setObj→I5, execOp→BI, maxLen→ER, Ending→Fe, Value→AQ, World→AL, Calls→Au, DataW→Dt, Addr→Ag, Oper→BX
open Go.Value renaming oneCell'→Jr, pointer→QL, string→WL, cells→Nv, int→Jq
open Go.Region renaming wanted→DX
open Function renaming comp→Yo
open Go.Sem renaming run_bind→Eu, run_pure→Yr, run→Dw
open Go.Fence renaming wide→UU
open Go.Addr renaming add→Q9
open Prod renaming fst→Ac
namespace Go.Proofs.YtkkgcebhfghdnaaGreatDoor
open Go
theorem BV{f:FuncId}{fn:Func}(h:Ae.funcs[f]? =AA fn)(hb:fn.body.isNone=false)(hn:(fn.name== "runtime.NumGoroutine")=false)(p:Array AQ)(w:AL):(E8 f p).run Ae w=.ok (.enter f p) w:=by
 unfold E8;simp only[Eu];have:(program).run Ae w=.ok Ae w:=rfl;rw[this];simp only[Oy,h,hb,hn,DC,if_false];rfl
theorem BP{f:FuncId}{fn:Func}(h:f≠47/\f≠46/\f≠79)(k:Tryz.prog.funcs[f]? =AA fn):Ae.funcs[f]? =AA fn:=(Aj.same h).trans k
abbrev VF6:=BP Aq Tryz.func6
abbrev VF8:=BP Aq Tryz.func8
abbrev VF9:=BP Aq Tryz.func9
abbrev AGZ:=BP Aq Tryz.func10
abbrev ANf:=BP Aq Tryz.func13
abbrev ANg:=BP Aq Tryz.func14
abbrev ANh:=BP Aq Tryz.func15
abbrev ANi:=BP Aq Tryz.func16
abbrev ANj:=BP Aq Tryz.func17
abbrev AJ9:=BP Aq Tryz.func18
abbrev ANk:=BP Aq Tryz.func19
abbrev ANl:=BP Aq Tryz.func20
abbrev ANm:=BP Aq Tryz.func21
abbrev ANn:=BP Aq Tryz.func22
abbrev ANo:=BP Aq Tryz.func24
abbrev ANp:=BP Aq Tryz.func25
abbrev AKA:=BP Aq Tryz.func26
abbrev AKB:=BP Aq Tryz.func27
abbrev ANq:=BP Aq Tryz.func28
abbrev ANr:=BP Aq Tryz.func29
abbrev ANs:=BP Aq Tryz.func31
abbrev ANt:=BP Aq Tryz.func32
abbrev ANu:=BP Aq Tryz.func33
abbrev ANv:=BP Aq Tryz.func34
abbrev ANw:=BP Aq Tryz.func35
abbrev AGa:=BP Aq Tryz.func36
abbrev AKC:=BP Aq Tryz.func37
abbrev AKD:=BP Aq Tryz.func38
abbrev AKE:=BP Aq Tryz.func39
abbrev AKF:=BP Aq Tryz.func40
abbrev ANx:=BP Aq Tryz.func41
abbrev ANy:=BP Aq Tryz.func42
abbrev ANz:=BP Aq Tryz.func43
abbrev AN0:=BP Aq Tryz.func44
abbrev AN1:=BP Aq Tryz.func45
abbrev AN2:=BP Aq Tryz.func48
abbrev AN3:=BP Aq Tryz.func49
abbrev AN4:=BP Aq Tryz.func50
abbrev AN5:=BP Aq Tryz.func51
abbrev AN6:=BP Aq Tryz.func52
abbrev AN7:=BP Aq Tryz.func53
abbrev AN8:=BP Aq Tryz.func54
abbrev AN9:=BP Aq Tryz.func55
abbrev AOA:=BP Aq Tryz.func56
abbrev AOB:=BP Aq Tryz.func57
abbrev ACQ:=BP Aq Tryz.func58
abbrev AOC:=BP Aq Tryz.func59
abbrev AOD:=BP Aq Tryz.func60
abbrev AKG:=BP Aq Tryz.func61
abbrev AOE:=BP Aq Tryz.func62
abbrev AOF:=BP Aq Tryz.func63
abbrev AOG:=BP Aq Tryz.func64
abbrev AOH:=BP Aq Tryz.func65
abbrev AOI:=BP Aq Tryz.func66
abbrev AGb:=BP Aq Tryz.func67
abbrev AOJ:=BP Aq Tryz.func70
abbrev AOK:=BP Aq Tryz.func71
abbrev AOL:=BP Aq Tryz.func72
abbrev AOM:=BP Aq Tryz.func73
abbrev AKH:=BP Aq Tryz.func78
abbrev AON:=BP Aq Tryz.func81
abbrev AOO:=BP Aq Tryz.func82
abbrev AOP:=BP Aq Tryz.func83
abbrev ATC:=BP Aq Tryz.func84
abbrev AOQ:=BP Aq Tryz.func85
abbrev AOR:=BP Aq Tryz.func86
abbrev AOS:=BP Aq Tryz.func87
abbrev AOT:=BP Aq Tryz.func88
abbrev AOU:=BP Aq Tryz.func89
abbrev AOV:=BP Aq Tryz.func90
abbrev AKI:=BP Aq Tryz.func94
abbrev AOW:=BP Aq Tryz.func95
abbrev AOX:=BP Aq Tryz.func96
abbrev AOY:=BP Aq Tryz.func97
abbrev AOZ:=BP Aq Tryz.func98
abbrev AOa:=BP Aq Tryz.func99
abbrev AKJ:=BP Aq Tryz.func100
abbrev AKK:=BP Aq Tryz.func120
abbrev AQo:=BP Aq Tryz.func122
abbrev AE2:=BP Aq Tryz.func123
abbrev AKL:=BP Aq Tryz.func124
abbrev AKM:=BP Aq Tryz.func125
abbrev AKN:=BP Aq Tryz.func128
abbrev AKO:=BP Aq Tryz.func129
abbrev AKP:=BP Aq Tryz.func130
abbrev AQp:=BP Aq Tryz.func136
abbrev AQq:=BP Aq Tryz.func137
abbrev AQr:=BP Aq Tryz.func138
abbrev AQs:=BP Aq Tryz.func139
abbrev AQt:=BP Aq Tryz.func140
abbrev AQu:=BP Aq Tryz.func141
abbrev AQv:=BP Aq Tryz.func142
abbrev AQw:=BP Aq Tryz.func143
abbrev AQx:=BP Aq Tryz.func144
abbrev AQy:=BP Aq Tryz.func145
abbrev AQz:=BP Aq Tryz.func146
abbrev AQ0:=BP Aq Tryz.func147
abbrev AQ1:=BP Aq Tryz.func148
abbrev AQ2:=BP Aq Tryz.func149
abbrev AQ3:=BP Aq Tryz.func150
abbrev AQ4:=BP Aq Tryz.func151
abbrev AQ5:=BP Aq Tryz.func152
abbrev AQ6:=BP Aq Tryz.func153
abbrev AQ7:=BP Aq Tryz.func154
abbrev AQ8:=BP Aq Tryz.func155
abbrev AQ9:=BP Aq Tryz.func156
abbrev AKQ:=BP Aq Tryz.func177
abbrev AKR:=BP Aq Tryz.func178
abbrev AKS:=BP Aq Tryz.func179
abbrev AKT:=BP Aq Tryz.func180
abbrev AKU:=BP Aq Tryz.func181
abbrev AKV:=BP Aq Tryz.func183
abbrev AKW:=BP Aq Tryz.func185
abbrev AOb:=BP Aq Tryz.func68
abbrev AOc:=BP Aq Tryz.func91
abbrev ATD:=BP Aq Tryz.func92
abbrev ATE:=BP Aq Tryz.func93
abbrev ARA:=BP Aq Tryz.func121
abbrev ARB:=BP Aq Tryz.func126
abbrev ARC:=BP Aq Tryz.func127
abbrev ARD:=BP Aq Tryz.func171
abbrev AKX:=BP Aq Tryz.func190
abbrev ARF:=BP Aq Tryz.func192
abbrev ARH:=BP Aq Tryz.func193
abbrev VC8:=BV VF8 rfl Az
abbrev VC9:=BV VF9 rfl Az
abbrev AOd:=BV AGZ rfl Az
abbrev ATF:=BV ANf rfl Az
abbrev AOe:=BV ANg rfl Az
abbrev AKY:=BV ANh rfl Az
abbrev ATG:=BV ANi rfl Az
abbrev AOf:=BV ANj rfl Az
abbrev AOg:=BV AJ9 rfl Az
abbrev ATH:=BV ANk rfl Az
abbrev AOh:=BV ANl rfl Az
abbrev AKZ:=BV ANm rfl Az
abbrev ATI:=BV ANn rfl Az
abbrev AOi:=BV ANo rfl Az
abbrev ATJ:=BV ANp rfl Az
abbrev ATK:=BV AKA rfl Az
abbrev ATL:=BV AKB rfl Az
abbrev AOj:=BV ANq rfl Az
abbrev ATM:=BV ANr rfl Az
abbrev ATN:=BV ANs rfl Az
abbrev ATO:=BV ANt rfl Az
abbrev ATP:=BV ANu rfl Az
abbrev ATQ:=BV ANv rfl Az
abbrev ATR:=BV ANw rfl Az
abbrev wS:=BV AGa rfl Az
abbrev AKa:=BV AKC rfl Az
abbrev AKb:=BV AKD rfl Az
abbrev AOl:=BV AKE rfl Az
abbrev ATS:=BV AKF rfl Az
abbrev ATT:=BV ANx rfl Az
abbrev ATU:=BV ANy rfl Az
abbrev ATV:=BV ANz rfl Az
abbrev ATW:=BV AN0 rfl Az
abbrev ATX:=BV AN1 rfl Az
abbrev ATY:=BV wH rfl Az
abbrev ATZ:=BV AB7 rfl Az
abbrev ATa:=BV AN2 rfl Az
abbrev ATb:=BV AN3 rfl Az
abbrev AOm:=BV AN4 rfl Az
abbrev ATc:=BV AN5 rfl Az
abbrev ATd:=BV AN6 rfl Az
abbrev AOn:=BV AN7 rfl Az
abbrev AKc:=BV AN8 rfl Az
abbrev AOo:=BV AN9 rfl Az
abbrev ATe:=BV AOA rfl Az
abbrev ATf:=BV AOB rfl Az
abbrev ATg:=BV ACQ rfl Az
abbrev AOp:=BV AOC rfl Az
abbrev AOq:=BV AOD rfl Az
abbrev AKd:=BV AKG rfl Az
abbrev ATh:=BV AOE rfl Az
abbrev ATi:=BV AOF rfl Az
abbrev ATj:=BV AOG rfl Az
abbrev ATk:=BV AOH rfl Az
abbrev ATl:=BV AOI rfl Az
abbrev AKe:=BV AGb rfl Az
abbrev jc:=BV AOJ rfl Az
abbrev ACR:=BV AOK rfl Az
abbrev ATm:=BV AOL rfl Az
abbrev ATn:=BV AOM rfl Az
abbrev AKf:=BV AKH rfl Az
abbrev AKg:=BV AON rfl Az
abbrev ATo:=BV AOO rfl Az
abbrev ATp:=BV AOP rfl Az
abbrev ATq:=BV AOQ rfl Az
abbrev ATr:=BV AOR rfl Az
abbrev AKh:=BV AOS rfl Az
abbrev AOr:=BV AOT rfl Az
abbrev AOs:=BV AOU rfl Az
abbrev ATs:=BV AOV rfl Az
abbrev AOt:=BV AKI rfl Az
abbrev ATt:=BV AOW rfl Az
abbrev ATu:=BV AOX rfl Az
abbrev ATv:=BV AOY rfl Az
abbrev ATw:=BV AOZ rfl Az
abbrev ATx:=BV AOa rfl Az
abbrev ARI:=BV AKJ rfl Az
abbrev ARJ:=BV AKK rfl Az
abbrev ARK:=BV AKN rfl Az
abbrev ARL:=BV AKO rfl Az
abbrev ARN:=BV AKP rfl Az
abbrev ARO:=BV AKQ rfl Az
abbrev ARP:=BV AKR rfl Az
abbrev ARQ:=BV AKS rfl Az
abbrev ARR:=BV AKT rfl Az
abbrev ARS:=BV AKU rfl Az
abbrev ART:=BV AKV rfl Az
abbrev ARU:=BV AKW rfl Az
abbrev VU0:=(Aj.und 0).trans Tryz.underlying0
abbrev VI0:=λw=>(Aj.ML 0 w).trans (Tryz.isAgg0 w)
abbrev VS0:=λw=>(Aj.Iu 0 w).trans (Tryz.sizeOf0 w)
abbrev VZ0:=λw=>(Aj.Iw 0 w).trans (Tryz.zeroValue0 w)
abbrev VU3:=(Aj.und 3).trans Tryz.underlying3
abbrev VI3:=λw=>(Aj.ML 3 w).trans (Tryz.isAgg3 w)
abbrev VS3:=λw=>(Aj.Iu 3 w).trans (Tryz.sizeOf3 w)
abbrev VZ3:=λw=>(Aj.Iw 3 w).trans (Tryz.zeroValue3 w)
abbrev VU4:=(Aj.und 4).trans Tryz.underlying4
abbrev VI4:=λw=>(Aj.ML 4 w).trans (Tryz.isAgg4 w)
abbrev VS4:=λw=>(Aj.Iu 4 w).trans (Tryz.sizeOf4 w)
abbrev VZ4:=λw=>(Aj.Iw 4 w).trans (Tryz.zeroValue4 w)
abbrev VU5:=(Aj.und 5).trans Tryz.underlying5
abbrev VI5:=λw=>(Aj.ML 5 w).trans (Tryz.isAgg5 w)
abbrev VS5:=λw=>(Aj.Iu 5 w).trans (Tryz.sizeOf5 w)
abbrev VZ5:=λw=>(Aj.Iw 5 w).trans (Tryz.zeroValue5 w)
abbrev Kv:=(Aj.und 9).trans Tryz.underlying9
abbrev VI9:=λw=>(Aj.ML 9 w).trans (Tryz.isAgg9 w)
abbrev VS9:=λw=>(Aj.Iu 9 w).trans (Tryz.sizeOf9 w)
abbrev VZ9:=λw=>(Aj.Iw 9 w).trans (Tryz.zeroValue9 w)
abbrev ATy:=(Aj.und 20).trans Tryz.underlying20
abbrev ATz:=λw=>(Aj.ML 20 w).trans (Tryz.isAgg20 w)
abbrev AT0:=λw=>(Aj.Iu 20 w).trans (Tryz.sizeOf20 w)
abbrev AT1:=λw=>(Aj.Iw 20 w).trans (Tryz.zeroValue20 w)
abbrev AT2:=(Aj.und 22).trans Tryz.underlying22
abbrev AT3:=(Aj.und 25).trans Tryz.underlying25
abbrev AT4:=(Aj.und 28).trans Tryz.underlying28
abbrev AOu:=(Aj.und 37).trans Tryz.underlying37
abbrev AOv:=λw=>(Aj.ML 37 w).trans (Tryz.isAgg37 w)
abbrev AOw:=λw=>(Aj.Iu 37 w).trans (Tryz.sizeOf37 w)
abbrev AOx:=λw=>(Aj.Iw 37 w).trans (Tryz.zeroValue37 w)
abbrev AT5:=(Aj.und 51).trans Tryz.underlying51
abbrev wU:=(Aj.und 62).trans Tryz.underlying62
abbrev AGc:=(Aj.und 69).trans Tryz.underlying69
abbrev AKi:=λw=>(Aj.ML 69 w).trans (Tryz.isAgg69 w)
abbrev AKj:=λw=>(Aj.Iu 69 w).trans (Tryz.sizeOf69 w)
abbrev AKk:=λw=>(Aj.Iw 69 w).trans (Tryz.zeroValue69 w)
abbrev AT6:=(Aj.und 78).trans Tryz.underlying78
abbrev AT7:=(Aj.und 80).trans Tryz.underlying80
abbrev AT8:=(Aj.und 81).trans Tryz.underlying81
abbrev AT9:=(Aj.und 84).trans Tryz.underlying84
abbrev ARV:=(Aj.und 101).trans Tryz.underlying101
abbrev Iy:=(Aj.und 112).trans Tryz.underlying112
abbrev ARW:=λw=>(Aj.ML 112 w).trans (Tryz.isAgg112 w)
abbrev ARX:=λw=>(Aj.Iu 112 w).trans (Tryz.sizeOf112 w)
abbrev ARY:=λw=>(Aj.Iw 112 w).trans (Tryz.zeroValue112 w)
abbrev ARZ:=(Aj.und 113).trans Tryz.underlying113
abbrev AKl:=(Aj.und 114).trans Tryz.underlying114
abbrev AE3:=(Aj.und 120).trans Tryz.underlying120
abbrev AAJ:=(Aj.und 121).trans Tryz.underlying121
abbrev PO:=(Aj.und 130).trans Tryz.underlying130
abbrev AKm:=λw=>(Aj.ML 130 w).trans (Tryz.isAgg130 w)
abbrev AKn:=λw=>(Aj.Iu 130 w).trans (Tryz.sizeOf130 w)
abbrev AKo:=λw=>(Aj.Iw 130 w).trans (Tryz.zeroValue130 w)
abbrev AKp:=(Aj.und 133).trans Tryz.underlying133
abbrev ARa:=(Aj.und 138).trans Tryz.underlying138
abbrev ARb:=(Aj.und 163).trans Tryz.underlying163
abbrev ARc:=λw=>(Aj.ML 163 w).trans (Tryz.isAgg163 w)
abbrev ARd:=λw=>(Aj.Iu 163 w).trans (Tryz.sizeOf163 w)
abbrev ARe:=λw=>(Aj.Iw 163 w).trans (Tryz.zeroValue163 w)
abbrev ARf:=(Aj.und 166).trans Tryz.underlying166
abbrev ARg:=λw=>(Aj.ML 166 w).trans (Tryz.isAgg166 w)
abbrev ARh:=λw=>(Aj.Iu 166 w).trans (Tryz.sizeOf166 w)
abbrev ARi:=λw=>(Aj.Iw 166 w).trans (Tryz.zeroValue166 w)
abbrev AKq:=(Aj.und 178).trans Tryz.underlying178
abbrev AKr:=λw=>(Aj.ML 178 w).trans (Tryz.isAgg178 w)
abbrev AKs:=λw=>(Aj.Iu 178 w).trans (Tryz.sizeOf178 w)
abbrev AKt:=λw=>(Aj.Iw 178 w).trans (Tryz.zeroValue178 w)
abbrev AE4:=(Aj.und 179).trans Tryz.underlying179
abbrev AE5:=λw=>(Aj.ML 179 w).trans (Tryz.isAgg179 w)
abbrev AE6:=λw=>(Aj.Iu 179 w).trans (Tryz.sizeOf179 w)
abbrev AE7:=λw=>(Aj.Iw 179 w).trans (Tryz.zeroValue179 w)
abbrev AKu:=(Aj.und 203).trans Tryz.underlying203
abbrev ARj:=(Aj.und 205).trans Tryz.underlying205
abbrev ARk:=(Aj.und 214).trans Tryz.underlying214
abbrev ARl:=λw=>(Aj.ML 214 w).trans (Tryz.isAgg214 w)
abbrev ARm:=λw=>(Aj.Iu 214 w).trans (Tryz.sizeOf214 w)
abbrev ARn:=λw=>(Aj.Iw 214 w).trans (Tryz.zeroValue214 w)
abbrev AKv:=(Aj.und 228).trans Tryz.underlying228
abbrev ARo:=(Aj.und 242).trans Tryz.underlying242
abbrev ARp:=λw=>(Aj.ML 242 w).trans (Tryz.isAgg242 w)
abbrev ARq:=λw=>(Aj.Iu 242 w).trans (Tryz.sizeOf242 w)
abbrev ARr:=λw=>(Aj.Iw 242 w).trans (Tryz.zeroValue242 w)
abbrev ARs:=(Aj.und 243).trans Tryz.underlying243
abbrev ARt:=λw=>(Aj.ML 243 w).trans (Tryz.isAgg243 w)
abbrev ARu:=λw=>(Aj.Iu 243 w).trans (Tryz.sizeOf243 w)
abbrev ARv:=λw=>(Aj.Iw 243 w).trans (Tryz.zeroValue243 w)
abbrev ARw:=(Aj.und 248).trans Tryz.underlying248
abbrev ARx:=λw=>(Aj.ML 248 w).trans (Tryz.isAgg248 w)
abbrev ARy:=λw=>(Aj.Iu 248 w).trans (Tryz.sizeOf248 w)
abbrev ARz:=λw=>(Aj.Iw 248 w).trans (Tryz.zeroValue248 w)
abbrev AR0:=(Aj.und 252).trans Tryz.underlying252
abbrev AR1:=λw=>(Aj.ML 252 w).trans (Tryz.isAgg252 w)
abbrev AR2:=λw=>(Aj.Iu 252 w).trans (Tryz.sizeOf252 w)
abbrev AR3:=λw=>(Aj.Iw 252 w).trans (Tryz.zeroValue252 w)
abbrev AR4:=(Aj.und 255).trans Tryz.underlying255
abbrev AR5:=λw=>(Aj.ML 255 w).trans (Tryz.isAgg255 w)
abbrev AR6:=λw=>(Aj.Iu 255 w).trans (Tryz.sizeOf255 w)
abbrev AR7:=λw=>(Aj.Iw 255 w).trans (Tryz.zeroValue255 w)
abbrev AR8:=(Aj.und 257).trans Tryz.underlying257
abbrev AR9:=λw=>(Aj.ML 257 w).trans (Tryz.isAgg257 w)
abbrev ASA:=λw=>(Aj.Iu 257 w).trans (Tryz.sizeOf257 w)
abbrev ASB:=λw=>(Aj.Iw 257 w).trans (Tryz.zeroValue257 w)
abbrev ASC:=(Aj.und 258).trans Tryz.underlying258
abbrev ASD:=λw=>(Aj.ML 258 w).trans (Tryz.isAgg258 w)
abbrev ASE:=λw=>(Aj.Iu 258 w).trans (Tryz.sizeOf258 w)
abbrev ASF:=λw=>(Aj.Iw 258 w).trans (Tryz.zeroValue258 w)
end Go.Proofs.YtkkgcebhfghdnaaGreatDoor
namespace Go.Proofs.YtkkgcebhfghdnaaGreatDoor.Vw
open Go.RowKit
section
variable {a:Act}{K:Act->AL->Prop}{ops:Array BX}{Q:Exit->Act->AL->Prop}{xs:List AQ}{c g k n sz:Nat}{o:BX}{A:Option Ag}{P:BM}{e t:Am}{z:AQ}{w:AL}
structure AZ (L:List Nat) (w w':AL):Prop where
 os:w'.os=w.os
 tape:w'.tape=w.tape
 output:w'.output=w.output
 size:w.heap.size<=w'.heap.size
 block: ∀k,k<w.heap.size->k∉L->w'.heap[k]? =w.heap[k]?
section Ap
variable {L M:List Nat} {a b c w w':AL}
theorem AZ.refl(L:List Nat)(w:AL):AZ L w w:=⟨rfl,rfl,rfl,Bd _,λ_ _ _=>rfl⟩
theorem AZ.trans(h:AZ L a b)(k:AZ M b c)(hs: ∀x∈M,x∈L\/a.heap.size<=x):AZ L a c:=
 ⟨k.os.trans h.os,k.tape.trans h.tape,k.output.trans h.output,Cj h.size k.size,
  λi hi hn=>(k.block i (Em hi h.size) (λhm=>by rcases hs i hm with h1|h1;exact hn h1;omega)).trans (h.block i hi hn)⟩
theorem AZ.mono(h:AZ M a b)(hs: ∀x∈M,x∈L\/a.heap.size<=x):AZ L a b:=(AZ.refl L a).trans h hs
theorem AZ.nil(h:AZ [] a b)(L:List Nat):AZ L a b:=h.mono AV
theorem AZ.Ah(h:AZ L a b)(k:AZ [] b c):AZ L a c:=h.trans k AV
theorem AZ.drew(h:AZ L a w):AZ L a w.drew:=⟨h.os,h.tape,h.output,h.size,h.block⟩
theorem AZ.drewN(h:AZ L a w)(n:Nat):AZ L a (w.drewN n):=⟨h.os,h.tape,h.output,h.size,h.block⟩
theorem AZ.alloc(h:AZ L a w)(o:Obj):AZ L a (w.alloc o):=
 ⟨h.os,h.tape,h.output,Cj h.size AV,λk hk hn=>(Below.heap_alloc w o k (Em hk h.size)).trans (h.block k hk hn)⟩
theorem AZ.setCell(h:AZ L a w){p:Ag}(hp:p.block∈L\/a.heap.size<=p.block)(u:AQ):AZ L a (w.setCell p u):=
 ⟨h.os,h.tape,h.output,by simpa[YA] using h.size,λi hi hn=>(Below.heap_setCell w p u i (by
  rintro rfl;rcases hp with hp|hp;exact hn hp
  omega)).trans (h.block i hi hn)⟩
theorem AZ.of_below(h:Below w.heap.size w w')(L:List Nat):AZ L w w':=⟨h.os,h.tape,h.output,h.size,λk hk _=>h.block k hk⟩
theorem AZ.wV{row:Option Nat}(h:w.grownBy w' row):AZ row.toList w w':=
 ⟨h.os,h.tape,h.output,h.size,λk hk hn=>h.block k hk (λe=>hn (by simp[<- e]))⟩
theorem AZ.cell(h:AZ L w w'){p:Ag}{v:AQ}(hc:w.cell? p=AA v)(hn:p.block∉L):w'.cell? p=AA v:=
 (World.cell?_of_block (h.block p.block (UT w p hc) hn)).trans hc
end Ap
def Bv (w:AL) (g:Nat) (t:Am) (cs:Array AQ):Prop:=w.heap[g]? =AA (.cells cs t (0,0))
section blk
variable {w w':AL} {g:Nat} {t:Am} {cs:Array AQ} {L:List Nat}
theorem Bv.lt(h:Bv w g t cs):g<w.heap.size:=(Dj.1 h).1
theorem Bv.cell(h:Bv w g t cs)(i:Nat):w.cell? ⟨g,i,AB⟩=cs[i]? :=cell_of_row w g i cs t (0,0) h
theorem Bv.frozen(h:Bv w g t cs)(i:Nat):w.frozen? ⟨g,i,AB⟩=false:=by unfold Bv at h;simp[World.frozen?,h]
theorem Bv.new(w:AL)(t:Am)(cs:Array AQ):Bv (w.alloc (.cells cs t)) w.heap.size t cs:=heap_alloc_new w _
theorem Bv.Ap(h:Bv w g t cs)(hc:AZ L w w')(hn:g∉L):Bv w' g t cs:=(hc.block g h.lt hn).trans h
theorem Bv.drew(h:Bv w g t cs):Bv w.drew g t cs:=h
theorem Bv.alloc(h:Bv w g t cs)(o:Obj):Bv (w.alloc o) g t cs:=(Below.heap_alloc w o g h.lt).trans h
theorem Bv.FH(h:Bv w g t cs)(i:Nat)(u:AQ):Bv (w.setCell ⟨g,i,AB⟩ u) g t (cs.setIfInBounds i u):=by
 unfold Bv at h⊢;simp[YA,mZ,h]
theorem Bv.ne_{g':Nat}{t':Am}{cs':Array AQ}(h:Bv w g t cs)(h':Bv w g' t' cs')(ht:t≠t'):g≠g':=by
 rintro rfl;unfold Bv at h h';rw[h] at h';simp at h';exact ht h'.2
end blk
def bo (A:Option Ag):List Nat:=(A.map (·.block)).toList
@[simp] theorem AKw:bo AB=[]:=rfl
@[simp] theorem AUA(a:Ag):bo (AA a)=[a.block]:=rfl
theorem add_block(a:Ag)(n:Nat):(a.add n).block=a.block:=by unfold Q9;split<;>rfl
theorem add_add'(a:Ag)(i j:Nat):(a.add i).add j=a.add (i+j):=by
 unfold Q9;by_cases hi:i=0<;>by_cases hj:j=0<;>simp[hi,hj,SB]
theorem add_zero'(g o j:Nat):(⟨g,o,AB⟩:Ag).add j=⟨g,o+j,AB⟩:=by unfold Q9;split<;>simp_all
theorem pq(a:Ag)(i j:Nat):a.add (i+(j+1))=⟨(a.add i).block,(a.add i).off+(j+1),AB⟩:=by
 unfold Q9;by_cases hi:i=0;subst hi;simp;simp[hi,SB]
def Rd (w:AL) (sz:Nat) (A:Option Ag) (n c:Nat) (xs:List AQ):Prop:=
 xs.length=n*sz/\n<=c/\c<=ER/\(A=AB->c=0)/\∀ad,A=AA ad->(0<n->ad.block<w.heap.size)/\∀j u,xs[j]? =AA u->w.cell? (ad.add j)=AA u
section rd
variable {w w':AL} {sz n c:Nat} {A:Option Ag} {xs:List AQ} {L:List Nat}
theorem Rd.nil(w:AL)(sz:Nat):Rd w sz AB 0 0 []:=⟨AV,Bd _,DW _,λ_=>rfl,λ_ h=>by cases h⟩
theorem Rd.Ap(h:Rd w sz A n c xs)(hc:AZ L w w')(hn: ∀k∈bo A,k∉L):Rd w' sz A n c xs:=
 ⟨h.1,h.2.1,h.2.2.1,h.2.2.2.1,λad e=>by
  subst e;refine⟨λhn=>Em ((h.2.2.2.2 ad rfl).1 hn) hc.size,λj u hu=>hc.cell ((h.2.2.2.2 ad rfl).2 j u hu) ?_⟩
  rw[add_block];exact hn ad.block AV⟩
theorem Rd.Yu(h:Rd w 1 A n c xs)(hk:k<n): ∃ad u,A=AA ad/\xs[k]? =AA u/\w.cell? (ad.add k)=AA u:=by
 have hl:k<xs.length:=by rw[h.1];omega
 cases A with|none=>have h1:=h.2.2.2.1 rfl;have h2:=h.2.1;omega|some ad=>exact⟨ad,_,rfl,Bo hl,(h.2.2.2.2 ad rfl).2 _ _ (Bo hl)⟩
theorem Rd.some_(h:Rd w sz A n c xs)(hk:0<n): ∃ad,A=AA ad/\ad.block<w.heap.size:=by
 cases A with|none=>have h1:=h.2.2.2.1 rfl;have h2:=h.2.1;omega|some ad=>exact⟨ad,rfl,(h.2.2.2.2 ad rfl).1 hk⟩
theorem Rd.take(h:Rd w sz A n c xs){k:Nat}(hk:k<=n):Rd w sz A k c (xs.take (k*sz)):=by
 refine⟨?_,Cj hk h.2.1,h.2.2.1,h.2.2.2.1,λad e=>⟨λhp=>(h.2.2.2.2 ad e).1 Aa,λj u hu=>(h.2.2.2.2 ad e).2 j u ?_⟩⟩;rw[I7,h.1];exact Jf (Td _ hk);rw[lI] at hu;split at hu;exact hu;cases hu
end rd
def Own (w:AL) (e:Am) (sz:Nat) (A:Option Ag) (n c:Nat) (xs:List AQ):Prop:=w.ownsRow 0 e sz (.slice A n c) n xs
section own
variable {w w':AL} {e:Am} {sz n c:Nat} {A:Option Ag} {xs:List AQ} {L:List Nat}
theorem Own.nil(w:AL)(e:Am)(sz:Nat):Own w e sz AB 0 0 []:=World.ownsRow_nil w 0 e sz
theorem Own.form(h:Own w e sz A n c xs):(A=AB/\n=0/\c=0/\xs=[])\/∃g cur,A=AA ⟨g,0,AB⟩/\Bv w g e cur/\n<=c/\c<=ER/\cur.size=c*sz/\cur.toList.take (n*sz)=xs:=by
 rcases h.2 with ⟨h1,h2⟩|⟨g,cap,cur,h1,_,h3,h4,h5,h6,h7⟩
 ·injection h1 with e1 e2 e3;subst e1;subst e3;subst h2;exact .inl ⟨rfl,rfl,rfl,RD (by simpa using h.1)⟩
 injection h1 with e1 e2 e3;subst e1;subst e3;exact .inr ⟨g,cur,rfl,h3,h4,h5,h6,h7⟩
theorem Own.rd(h:Own w e sz A n c xs):Rd w sz A n c xs:=by
 rcases h.form with ⟨rfl,rfl,rfl,rfl⟩|⟨g,cur,rfl,hb,hn,hm,hs,ht⟩;exact Rd.nil w sz
 exact⟨h.1,hn,hm,(λe=>by cases e),λad e=>by
  injection e with e;subst e
  exact⟨λ_=>hb.lt,λj u hu=>World.ownsRow.cells h (g:=g) rfl j u hu⟩⟩
theorem Own.lt(h:Own w e sz A n c xs): ∀k∈bo A,k<w.heap.size:=by
 rcases h.form with ⟨rfl,rfl,rfl,rfl⟩|⟨g,cur,rfl,hb,hn,hm,hs,ht⟩;simp;intro k hk;simp at hk;subst hk;exact hb.lt
theorem Own.Ap(h:Own w e sz A n c xs)(hc:AZ L w w')(hn: ∀k∈bo A,k∉L):Own w' e sz A n c xs:=by
 refine⟨h.1,?_⟩;rcases h.2 with h2|⟨g,cap,cur,h1,hb,h3,h4⟩;exact .inl h2;refine .inr ⟨g,cap,cur,h1,hb,?_,h4⟩;injection h1 with e1;subst e1;exact (hc.block g (Dj.1 h3).1 (hn g AV)).trans h3
theorem Own.Et{cs:Array AQ}(h:Own w e sz A n c xs)(hb:Bv w g t cs)(ht:t≠e): ∀k∈bo A,k≠g:=by
 rcases h.form with ⟨rfl,rfl,rfl,rfl⟩|⟨g',cur,rfl,hb',_⟩;simp;intro k hk;simp at hk;subst hk;exact hb'.ne_ hb (H8 ht)
theorem Own.own_ne{e':Am}{sz' n' c':Nat}{A':Option Ag}{xs':List AQ}(h:Own w e sz A n c xs)(h':Own w e' sz' A' n' c' xs')(ht:e≠e'): ∀k∈bo A,k∉bo A':=by
 rcases h.form with ⟨rfl,rfl,rfl,rfl⟩|⟨g,cur,rfl,hb,_⟩;simp;rcases h'.form with ⟨rfl,rfl,rfl,rfl⟩|⟨g',cur',rfl,hb',_⟩;simp;intro k hk hk';simp at hk hk';subst hk;exact hb.ne_ hb' ht hk'
theorem Own.lit(w:AL)(e:Am)(sz:Nat)(cs:Array AQ)(n:Nat)(hm:n<=ER)(hs:cs.size=n*sz):Own (w.alloc (.cells cs e)) e sz (AA ⟨w.heap.size,0,AB⟩) n n cs.toList:=by
 have:=World.ownsRow_lit (base:=0) (e:=e) (size:=sz) w cs n (DW _) hm hs;exact this
theorem Own.Yu(h:Own w e 1 A n c xs){k:Nat}(hk:k<n): ∃ad u,A=AA ad/\xs[k]? =AA u/\w.cell? (ad.add k)=AA u/\w.frozen? (ad.add k)=false/\
  ∀u',Own (w.setCell (ad.add k) u') e 1 A n c (xs.set k u'):=by
 obtain⟨ad,u,hA,hx,hc⟩:=h.rd.Yu hk;rcases h.form with ⟨rfl,rfl,rfl,rfl⟩|⟨g,cur,hA',hb,hn,hm,hs,ht⟩;omega;subst hA';injection hA with hA;subst hA;rw[add_zero',Ky] at hc;refine⟨_,u,rfl,hx,by rw[add_zero',Ky];exact hc,by rw[add_zero'];exact hb.frozen _,λu'=>⟨by rw[lJ];exact h.1,.inr ⟨g,c,_,rfl,DW _,by rw[add_zero',Ky];exact hb.FH k u',hn,hm,by rw[yK];exact hs,?_⟩⟩⟩;rw[<- ht,yL,yM]
theorem Own.cut(h:Own w e sz A n c xs)(hk:k<=n):Own w e sz A k c (xs.take (k*sz)):=by
 refine⟨?_,?_⟩;rw[I7,h.1];exact Jf (Td _ hk);rcases h.form with ⟨rfl,rfl,rfl,rfl⟩|⟨g,cur,rfl,hb,hn,hm,hs,ht⟩;exact .inl ⟨by rw[show k=0 by omega],Aa⟩;refine .inr ⟨g,c,cur,rfl,DW _,hb,Aa,hm,hs,?_⟩;rw[<- ht,aX];congr 1;exact (Jf (Td _ hk)).symm
end own
def Ety (P:BM) (t e:Am) (sz bytes:Nat) (z:AQ):Prop:=
 P.underlying t=AA (.slice e)/\(∃i,P.info? e=AA i/\i.zero=AA z/\i.size=sz/\i.bytes=bytes)/\z.cells.size=sz/\0<sz
theorem Ety.mk'{bytes:Nat}(ht:P.underlying t=AA (.slice e))(h:(P.info? e).map (λi=>(i.zero,i.size,i.bytes))=AA (AA z,sz,bytes))(hz:z.cells.size=sz)(hp:0<sz):Ety P t e sz bytes z:=by
 obtain⟨i,h1,h2,h3,h4⟩:=info_parts h;exact⟨ht,⟨i,h1,h2,h3,h4⟩,hz,hp⟩
theorem ACS{bytes:Nat}(he:Ety P t e sz bytes z)(hrd:Rd w sz A n c xs){f:Nat}(h1:f<=g)(h2:g<=n):
  ∃S,(∀w',(WC t (.slice A n c) (AA (.int .i64 (f:Int))) (AA (.int .i64 (g:Int))) AB).run P w'=.ok (.slice S (g - f) (c - f)) w')/\
   Rd w sz S (g - f) (c - f) ((xs.drop (f*sz)).take ((g - f)*sz))/\∀k∈bo S,k∈bo A:=by
 obtain⟨ht,⟨i,hi,hz,hsz,hby⟩,hzs,hpos⟩:=he;have hc:=hrd.2.1;refine⟨if c=f then A else A.map (·.add (f*sz)),λw'=>?_,⟨?_,Aa,Cj (Nat.sub_le _ _) hrd.2.2.1,?_,?_⟩,?_⟩
 ·(have b1:g<=c:=by omega);simp[WC,IK ht,Instr.sliceBounds,Instr.sliceBound,asIntOf,sizeOf,I4,hi,hsz,b1,h1]
 rw[I7,Tf,hrd.1,<- Nat.sub_mul];exact Jf (Td _ Aa)
 ·intro hn;split at hn;omega
  cases A with|none=>have:=hrd.2.2.2.1 rfl;omega|some ad=>cases hn
 ·intro ad ha;split at ha
  ·subst ha;refine⟨λhp=>by omega,λj u hu=>?_⟩;rw[show g - f=0 by omega] at hu;simp at hu
  cases A with
  |none=>cases ha|some a0=>
   simp at ha;subst ha;refine⟨λhp=>by rw[add_block];exact (hrd.2.2.2.2 a0 rfl).1 Aa,λj u hu=>?_⟩;rw[add_add'];refine (hrd.2.2.2.2 a0 rfl).2 _ u ?_;rw[lI] at hu;split at hu;rw[yN] at hu;exact hu;cases hu
 intro k hk;split at hk;exact hk
 cases A with|none=>simp at hk|some a0=>simpa[add_block] using hk
theorem ACT{ty:Am}{bytes:Nat}(he:Ety P t e sz bytes z)(hown:Own w e sz A n c xs)
  {A2:Option Ag} {m c2:Nat} {news:List AQ} (hrd:Rd w sz A2 m c2 news) (h1: ∀u∈news,u.oneCell'=true) (h63:n+m<=ER) (hb:(n+m)*bytes<=140737488355328):
  ∃A' c' w',(Pn #[t,t] ty #[.slice A n c,.slice A2 m c2]).run P w=.ok (.slice A' (n+m) c') w'/\Own w' e sz A' (n+m) c' (xs++news)/\AZ (bo A) w w'/\
   (∀k∈bo A',k∈bo A\/(w.heap.size<=k/\k<w'.heap.size))/\(A'=AB->A=AB/\m=0):=by
 obtain⟨ht,⟨i,hi,hz,hsz,hby⟩,hzs,hpos⟩:=he
 cases A2 with
 |none=>
  have hc0:=hrd.2.2.2.1 rfl;(have hm0:m=0:=by have:=hrd.2.1;omega);subst hm0;subst hc0;have hn:news=[]:=RD (by simpa using hrd.1);subst hn;refine⟨A,c,w,?_,by simpa using hown,AZ.refl _ _,λk hk=>.inl hk,λe=>⟨e,rfl⟩⟩;simpa using run_append_owned_none (P:=P) (w:=w) 0 t ty e i sz ht hi _ n xs hown
 |some ad=>
  obtain⟨v',w',hr,hown',hg,hnil⟩:=run_append_own (P:=P) w 0 t ty e i z sz bytes ht hi hz hsz hby hzs hpos _ n xs hown ad m c2 news hrd.1 (hrd.2.2.2.2 ad rfl).2 h1 h63 hb (DW _)
  have hform: ∃A' c',v'=.slice A' (n+m) c':=by
   rcases hown'.2 with ⟨h1,h2⟩|⟨g,cap,cur,h1,_⟩;exact⟨AB,0,by rw[h1,h2]⟩;exact⟨_,_,h1⟩
  obtain⟨A',c',rfl⟩:=hform;(have hrow:(Value.slice A n c).ownBlock.toList=bo A:=by cases A<;>rfl);refine⟨A',c',w',hr,hown',by have:=AZ.wV hg;rwa[hrow] at this,?_,?_⟩
  ·
   intro k hk;have hk':k<w'.heap.size:=Own.lt hown' k hk;by_cases hin:k∈bo A;exact .inl hin;right;refine⟨?_,hk'⟩;rcases XF k w.heap.size with hlt|hge
   ·
    exfalso
    have key: ∀A' c' w',(Pn #[t,t] ty #[.slice A n c,.slice (AA ad) m c2]).run P w=.ok (.slice A' (n+m) c') w'->∀k∈bo A',k∈bo A\/w.heap.size<=k:=by
     intro A' c' w' hr';rcases hown.form with ⟨rfl,rfl,rfl,rfl⟩|⟨g,cur,rfl,hbk,hnc,hcm,hcs,htk⟩
     ·by_cases hm:m=0
      ·subst hm;have hn:news=[]:=RD (by simpa using hrd.1);subst hn
       have e0:(Pn #[t,t] ty #[.slice AB 0 0,.slice (AA ad) 0 c2]).run P w=.ok (.slice AB 0 0) w:=by
        simp[Pn,IK ht,sizeOf,I4,hi,Builtin.lenOf,MP,loadCells,loadCellsFrom]
       rw[e0] at hr';simp at hr';intro k hk;rw[<- hr'.1.1] at hk;simp at hk
      have e0:=run_append_nil (P:=P) w t ty e i z ht hi hz ad m c2 news (by rw[hsz];exact hrd.1) (hrd.2.2.2.2 ad rfl).2 Aa (by simp only[ER] at h63;omega) (by have hb:=hb;rw[hby];simp only[Ky] at hb;omega);rw[e0] at hr';simp at hr';intro k hk;rw[<- hr'.1.1] at hk;simp at hk;right;omega
     by_cases hroom:n+m<=c
     ·(have hfit:n*i.size+news.length<=cur.size:=by rw[hrd.1,hcs,hsz,<- lK];exact Td _ hroom);have e0:=run_append_room (P:=P) w t ty e i ht hi g n c cur hbk ad m c2 news (by rw[hsz];exact hrd.1) (hrd.2.2.2.2 ad rfl).2 h1 hroom hfit;rw[e0] at hr';simp at hr';intro k hk;rw[<- hr'.1.1] at hk;simp at hk;left;simp[hk]
     have e0:=run_append_grow (P:=P) w t ty e i z ht hi hz ⟨g,0,AB⟩ n c xs (by rw[hsz];exact hown.1) (hown.cells (g:=g) rfl) ad m c2 news (by rw[hsz];exact hrd.1) (hrd.2.2.2.2 ad rfl).2 Aa (by simp only[ER] at h63;omega) (growslice_fits Aa (by rw[hby];exact hb));rw[e0] at hr';simp at hr';intro k hk;rw[<- hr'.1.1] at hk;simp at hk;right;omega
    rcases key A' c' w' hr k hk with h1|h1;exact hin h1;omega
   exact hge
  intro e;subst e
  have hx:(n+m=0/\c'=0):=by
   rcases hown'.2 with ⟨h1,h2⟩|⟨g,cap,cur,h1,_⟩
   ·injection h1 with _ _ h3;exact⟨h2,h3⟩
   injection h1 with h1 _ _;cases h1
  have h2:=hnil.1 (by rw[hx.1,hx.2]);refine⟨?_,h2.2⟩;have:=h2.1;injection this
theorem AM6(s x:DU)
  (ho:o.op=.call {callee:=.builtin .append,args:=#[s,x],argTypes:=#[t,t]})
  {e:Am} {sz bytes:Nat} {z:AQ} (he:Ety P t e sz bytes z) {A:Option Ag} {n c:Nat} {xs:List AQ} (hs:a.eval s=.slice A n c) (hown:Own w e sz A n c xs)
  {A2:Option Ag} {m c2:Nat} {news:List AQ} (hx:a.eval x=.slice A2 m c2) (hrd:Rd w sz A2 m c2 news) (h1: ∀u∈news,u.oneCell'=true) (h63:n+m<=ER) (hb:(n+m)*bytes<=140737488355328)
  (h: ∀A' c' w',Own w' e sz A' (n+m) c' (xs++news)->AZ (bo A) w w'->(∀k∈bo A',k∈bo A\/(w.heap.size<=k/\k<w'.heap.size))->(A'=AB->A=AB/\m=0)->
   K (a.put o.dst (.slice A' (n+m) c')) w'):o.wp P a w K Q:=by
 obtain⟨A',c',w',hr,h2,h3,h4,h5⟩:=ACT (ty:=o.type) he hown hrd h1 h63 hb;unfold Oper.wp BI;simp only[ho,resolve,invoke,builtin,Eu,Yr,Oy,J9,BN,EG,hs,hx,hr];exact h A' c' w' h2 h3 h4 h5
theorem JV{E:Prop}(hgd:o.guard=AB)(s x:DU)
  (ho:o.op=.call {callee:=.builtin .append,args:=#[s,x],argTypes:=#[t,t]})
  {e:Am} {sz bytes:Nat} {z:AQ} (he:Ety P t e sz bytes z) {A:Option Ag} {n c:Nat} {xs:List AQ} (hs:a.eval s=.slice A n c) (hown:Own w e sz A n c xs)
  {A2:Option Ag} {m c2:Nat} {news:List AQ} (hx:a.eval x=.slice A2 m c2) (hrd:Rd w sz A2 m c2 news) (h1: ∀u∈news,u.oneCell'=true) (h63:n+m<=ER) (hb:(n+m)*bytes<=140737488355328)
  (h: ∀A' c' w',Own w' e sz A' (n+m) c' (xs++news)->AZ (bo A) w w'->(∀k∈bo A',k∈bo A\/(w.heap.size<=k/\k<w'.heap.size))->(A'=AB->A=AB/\m=0)->
   K (a.put o.dst (.slice A' (n+m) c')) w'):if DX o (yielded ops a.tmps)=true then Oper.wp P o a w K Q else E:=by
 (have hw:DX o (yielded ops a.tmps)=true:=by simp[DX,hgd]);rw[BU hw];exact AM6 s x ho he hs hown hx hrd h1 h63 hb h
theorem D8{rest:List BX}(hgd:o.guard=AB)(s x:DU)
  (ho:o.op=.call {callee:=.builtin .append,args:=#[s,x],argTypes:=#[t,t]})
  {e:Am} {sz bytes:Nat} {z:AQ} (he:Ety P t e sz bytes z) {A:Option Ag} {n c:Nat} {xs:List AQ} (hs:a.eval s=.slice A n c) (hown:Own w e sz A n c xs)
  {A2:Option Ag} {m c2:Nat} {news:List AQ} (hx:a.eval x=.slice A2 m c2) (hrd:Rd w sz A2 m c2 news) (h1: ∀u∈news,u.oneCell'=true) (h63:n+m<=ER) (hb:(n+m)*bytes<=140737488355328)
  (h: ∀A' c' w',Own w' e sz A' (n+m) c' (xs++news)->AZ (bo A) w w'->(∀k∈bo A',k∈bo A\/(w.heap.size<=k/\k<w'.heap.size))->(A'=AB->A=AB/\m=0)->
   wpList P ops Q rest (a.put o.dst (.slice A' (n+m) c')) w'):wpList P ops Q (o::rest) a w:=by
 obtain⟨A',c',w',hr,h2,h3,h4,h5⟩:=ACT (ty:=o.type) he hown hrd h1 h63 hb;refine wpList_plain hgd λK hK=>?_;unfold Oper.wp BI;simp only[ho,resolve,invoke,builtin,Eu,Yr,Oy,J9,BN,EG,hs,hx,hr];exact hK _ _ (h A' c' w' h2 h3 h4 h5)
theorem Bg:(∀(α:Type) (l:List α) (i:Nat) (h:i<l.toArray.size),l.toArray[i]=l[i]'(by simpa using h))/\(∀(α:Type) (a:α) (l:List α) (h:0<(a::l).length),(a::l)[0]=a)/\
  (∀(α:Type) (a:α) (l:List α) (i:Nat) (h:i+1<(a::l).length),(a::l)[i+1]=l[i]'(Nat.lt_of_succ_lt_succ h))/\(∀(α:Type) (l:List α) (i:Nat) (a:α),l.toArray.setIfInBounds i a=(l.set i a).toArray)/\
  (∀(α:Type) (l:List α) (a b:α),(a::l).set 0 b=b::l)/\(∀(α:Type) (l:List α) (a b:α) (n:Nat),(a::l).set (n+1) b=a::l.set n b):=
 ⟨λ_ _ _ _=>rfl,λ_ _ _ _=>rfl,λ_ _ _ _ _=>rfl,λ_ l i a=>List.setIfInBounds_toArray l i a,λ_ _ _ _=>rfl,λ_ _ _ _ _=>rfl⟩
theorem FV:(∀(α:Type) (l:List α) (i:Nat),l.toArray[i]? =l[i]?)/\(∀(α:Type) (a:α) (l:List α) (i:Nat),(a::l)[i+1]? =l[i]?)/\(∀(α:Type) (a:α) (l:List α),(a::l)[0]? =AA a):=⟨λ_ _ _=>by simp,λ_ _ _ _=>rfl,λ_ _ _=>rfl⟩
end
open Go.ChangeShapes Go.WideShapes Go.Deep
section
variable {args:Array AQ}{held:Bool}{s:ChangeSpec}{k:IntKind}{before p:List GZ}{sp:Nat->Bool}{H α:Type}{e t:Am}{v:AQ}{W W':AL}
theorem own:ownKnob Ae.godebug=AB:=by kernel_rfl
section
variable {H:Type} {enc:Am×AQ->H} {P:BM} {w:AL} {base:Nat} {spare:Nat->Bool} {held:Bool}
theorem Sj{fs:Array Field}{fuel:Nat}{cs:List AQ}{x:Dt H×List GZ}(ht:P.underlying t=AA (.slice e))(he:P.underlying e=AA (.struct fs))
  (hone:oneCellFields P fs=true) (hC:P.cellsOf e=fs.size) (h:DataW.trod enc P w base spare held fuel t cs=AA x):
  (cs=[.slice AB 0 0]/\x=(.nil,[]))\/
  ∃(a:Ag) (len cap m:Nat) (D:Nat->Dt H) (Pl:Nat->List GZ),cs=[.slice (AA a) len cap]/\base<=a.block/\len<=cap/\cap<=ER/\m=(if spare a.block then cap else len)/\
   x=(.slice ((Fp len).map D) ((Fp (m - len)).map λj=>D (len+j)),MemPlace.row a (m*fs.size)++(Fp m).flatMap Pl)/\
   ∀i,i<m->∃(ys:List (Dt H×List GZ)) (n:Nat),D i=.agg (ys.map (·.1))/\Pl i=ys.flatMap (·.2)/\ys.length=fs.size/\
    ∀(j:Nat) (f:Field),fs[j]? =AA f->∃(v:AQ) (y:Dt H×List GZ),w.cell? (a.add (i*fs.size+j))=AA v/\ys[j]? =AA y/\DataW.trod enc P w base spare held n f.type [v]=AA y:=by
 rcases open_slice ht h with h0|⟨a,len,cap,m,n,D,Pl,hcs,hb,hl,hm,hmm,hx,hi⟩;exact .inl h0;refine .inr ⟨a,len,cap,m,D,Pl,hcs,hb,hl,hm,hmm,by rw[hC] at hx;exact hx,λi him=>?_⟩;obtain⟨cs',hc,ht'⟩:=hi i him;rw[hC] at hc;obtain⟨ys,n',hn',hy,hlen,hyl,hf⟩:=DataW.trod_struct he ht';obtain⟨_,hcl,hat⟩:=World.cells?_some hc;simp only[O5] at hy;refine⟨ys,n',hy.1,hy.2,hyl,λj f hj=>?_⟩;obtain⟨ho,hk⟩:=hone_of hone j f hj;have hjl:j<fs.size:=(Dj.1 hj).1;have hcell:=hat j hjl;have hv:cs'[j]? =AA (cs'[j]'Aa):=Bo Aa;have h1:=hf j f hj;rw[ho,hk] at h1
 have hone':(cs'.drop j).take 1=[cs'[j]'Aa]:=by
  rw[VN Aa];rfl
 rw[hone'] at h1;have hys:ys[j]? =AA (ys[j]'Aa):=Bo Aa;refine⟨_,_,?_,hys,h1.trans hys⟩;rw[<- Go.Deep.add_add,hcell,hv]
end
section
variable {H:Type} {enc:Am×AQ->H} {P:BM}
theorem pz{f:Func}{apart fresh handsOn again:Bool}{ds gs:List (Dt H)}{pa pv:List GZ}
  (hW:DataW.Whole enc P f.params.toList s.vars apart W args.toList ds gs before)
  (hres: ∀(b:Nat) (sp:Nat->Bool) (hd:Bool),DataW.TrodAll enc P W' b sp hd f.resultTypes.toList (v.resultList f.resultTypes.size) (s.fn H (ds++gs)).results [])
  (hargs: ∀sp:Nat->Bool,(∀p∈before,sp p.block=true)->DataW.TrodAll enc P W' 0 sp true f.params.toList args.toList (s.fn H (ds++gs)).args pa)
  (hvars: ∀sp:Nat->Bool,(∀p∈before,sp p.block=true)->DataW.TrodVars enc P W' sp s.vars (s.fn H (ds++gs)).vars pv)
  (hps:before=pa++pv) (hb:Below W.heap.size W W')
  (hok: ∀(j:Nat) (t:Am) (r:AQ),f.resultTypes[j]? =AA t->(v.resultList f.resultTypes.size)[j]? =AA r->Value.okWide P W' .any 0 t r):
  s.post enc P f apart fresh handsOn again W args v W':=by
 have hlt: ∀p∈before,p.block<W.heap.size:=λp hp=>hW.lt p hp;(have hold: ∀p∈before,(λb=>decide (b<W.heap.size)) p.block=true:=λp hp=>by simpa using hlt p hp);refine⟨ds,gs,before,[],pa,pv,hW,hres _ _ _,hargs _ hold,hvars _ hold,World.keptBut_mono (λp hp=>⟨hp,?_⟩) (hb.frame (· ∈before)),λ_=>?_⟩
 ·rw[hps,Bj] at hp;exact Or.inr hp
 obtain⟨_,_,_,_,_,hz,hn⟩:=hW;refine⟨hok,_,_,([]++pa)++pv,⟨[]++pa,pv,trodAll_append (hargs _ (λ_ _=>rfl)) (hres _ _ _),hvars _ (λ_ _=>rfl),rfl,?_,?_⟩,?_⟩
 ·intro b off hp;(have hin:MemPlace.cell b off∈before:=by rw[hps];simpa using hp);rw[hb.frozen (hlt _ hin)];exact hz b off hin
 ·intro ha;have:=hn ha;rw[hps] at this;simpa using this
 intro p hp _;rw[hps];simpa using hp
end
theorem WU(D:Nat->Dt H)(n:Nat)(f:Nat->Nat)(h: ∀i,i<n->f i<=Rows.uptoBulk (D i)):((Fp n).map f).sum<=Rows.uptoBulkAll ((Fp n).map D):=by
 have gen: ∀(l:List Nat),(∀i∈l,f i<=Rows.uptoBulk (D i))->(l.map f).sum<=Rows.uptoBulkAll (l.map D):=by
  intro l
  induction l with
  |nil=>intro _;simp[Rows.uptoBulkAll]
  |cons x r ih=>
   intro hl;have h1:=hl x AV;have h2:=ih (λi hi=>hl i (by simp[hi]));simp only[BN,Bz,Rows.uptoBulkAll];omega
 exact gen _ (λi hi=>h i (by simpa using hi))
theorem ACU{ds:List (Dt H)}(hk:Rows.uptoSmall H ds=true):Rows.uptoBulkAll ds<=1048576:=of_decide_eq_true hk
section
variable {H:Type} {enc:Am×AQ->H} {P:BM}
theorem AOy{d:Dt H}(F:α->AQ)(G:α->Nat)
  (ht:P.underlying t=AA (.slice e)) (hc:P.cellsOf e=1) (hel: ∀n (u:AQ) y,DataW.trod enc P W 0 sp held n e [u]=AA y->∃a,u=F a/\G a<=Rows.uptoBulk y.1)
  (hv: ∃a l c,v=.slice a l c) (h:DataW.Trod enc P W 0 sp held t v d p):
  ∃A n c,∃zs:List α,v=.slice A n c/\Rd W 1 A n c (zs.map F)/\zs.length=n/\(zs.map G).sum+1<=Rows.uptoBulk d:=by
 obtain⟨a0,l0,c0,rfl⟩:=hv;obtain⟨fuel,hf⟩:=h;rcases open_slice1 ht hc hf with ⟨hcs,hx⟩|⟨a,len,cap,m,n,V,D,Pl,hcs,hb,hl,hm,hmm,hx,hi⟩
 ·simp[Nv] at hcs;obtain⟨rfl,rfl,rfl⟩:=hcs;simp only[O5] at hx;obtain⟨rfl,rfl⟩:=hx;exact⟨AB,0,0,[],rfl,Rd.nil _ _,rfl,by simp[Rows.uptoBulk]⟩
 simp[Nv] at hcs;obtain⟨rfl,rfl,rfl⟩:=hcs;simp only[O5] at hx;obtain⟨rfl,rfl⟩:=hx;(have hle:l0<=m:=by rw[hmm];split<;>omega);have hex: ∀i:Nat,i<l0->∃z:α,V i=F z/\G z<=Rows.uptoBulk (D i):=λi hil=>hel _ _ _ (hi i Aa).2
 obtain⟨Z,hZ⟩: ∃zs:List α,zs.length=l0/\∀i z,zs[i]? =AA z->V i=F z/\G z<=Rows.uptoBulk (D i):=by
  have: ∀k,k<=l0->∃zs:List α,zs.length=k/\∀i z,zs[i]? =AA z->V i=F z/\G z<=Rows.uptoBulk (D i):=by
   intro k
   induction k with
   |zero=>intro _;exact⟨[],rfl,λi z h=>by simp at h⟩
   |succ k ih=>
    intro hk;obtain⟨zs,h1,h2⟩:=ih Aa;obtain⟨z,hz⟩:=hex k Aa;refine⟨zs++[z],by simp[h1],λi y hy=>?_⟩;by_cases hik:i<k;rw[O6 Aa] at hy;exact h2 i y hy;rw[Ig Aa] at hy
    have h0:i=k:=by
     rcases XF k i with h3|h3;rw[H9 (by simp;omega)] at hy;cases hy;omega
    subst h0;rw[h1,NM] at hy;simp at hy;subst hy;exact hz
  exact this l0 (Bd _)
 refine⟨AA a,l0,c0,Z,rfl,⟨by simp[hZ.1],hl,hm,(λe=>by cases e),λad e=>?_⟩,hZ.1,?_⟩
 ·injection e with e;subst e;refine⟨λhp=>?_,λj u hu=>?_⟩
  ·have:=(hi 0 Aa).1;have:=UT _ _ this;rwa[add_block] at this
  rw[Ba] at hu
  cases hz:Z[j]? with
  |none=>rw[hz] at hu;cases hu|some z=>
   rw[hz] at hu;simp at hu;subst hu;(have hj:j<l0:=by have:=(CP.1 hz).1;omega);rw[(hi j Aa).1,(hZ.2 j z hz).1]
 have h1:=WU D l0 (λi=>(Z[i]?.map G).getD 0) (λi hil=>by
  have hz:Z[i]? =AA (Z[i]'Aa):=Bo Aa;rw[hz]
  exact (hZ.2 i _ hz).2)
 have h2:(Fp l0).map (λi=>(Z[i]?.map G).getD 0)=Z.map G:=by
  apply OE;intro i;rw[Ba,Ba];by_cases hil:i<l0
  ·rw[Bo (by simpa using hil),Bo Aa];(have AKx:i<Z.length:=by omega);simp[AKx]
  rw[H9 (by simp;omega),H9 Aa];rfl
 rw[h2] at h1;simp only[Rows.uptoBulk];omega
theorem ACV(he:P.underlying e=AA (.int k)): ∀n (u:AQ) (y:Dt H×List GZ),DataW.trod enc P W 0 sp held n e [u]=AA y->∃a:{z:Int//(Lit.int k z).wf=true},u=Jq k a.1/\1<=Rows.uptoBulk y.1:=λn u y h=>by
 obtain⟨z,h1,rfl,h3⟩:=DataW.trod_int he h;simp at h1;exact⟨⟨z,h3⟩,h1,by simp[Rows.uptoBulk]⟩
theorem AAK(he:P.underlying e=AA .bool): ∀n (u:AQ) (y:Dt H×List GZ),DataW.trod enc P W 0 sp held n e [u]=AA y->∃a:Bool,u=Value.bool a/\1<=Rows.uptoBulk y.1:=λn u y h=>by
 obtain⟨z,h1,rfl⟩:=DataW.trod_bool he h;simp at h1;exact⟨z,h1,by simp[Rows.uptoBulk]⟩
theorem ACW(l:List α):(l.map (λ_=>1)).sum=l.length:=by induction l with|nil=>rfl|cons x r ih=>simp[ih];omega
theorem AHq{d:Dt H}
  (ht:P.underlying t=AA (.slice e)) (he:P.underlying e=AA (.int k)) (hc:P.cellsOf e=1) (hv: ∃a l c,v=.slice a l c) (h:DataW.Trod enc P W 0 sp held t v d p):
  ∃A n c,∃zs:List Int,v=.slice A n c/\Rd W 1 A n c (zs.map (Jq k))/\zs.length=n/\n+1<=Rows.uptoBulk d/\∀z∈zs,(Lit.int k z).wf=true:=by
 obtain⟨A,n,c,zs,h1,h2,h3,h4⟩:=AOy (λa:{z:Int//(Lit.int k z).wf=true}=>Jq k a.1) (λ_=>1) ht hc (ACV he) hv h;rw[ACW] at h4;refine⟨A,n,c,zs.map (·.1),h1,by rw[En];exact h2,by simp[h3],Aa,λz hz=>?_⟩;obtain⟨a,_,rfl⟩:=CG.1 hz;exact a.2
theorem AE8{d:Dt H}
  (ht:P.underlying t=AA (.slice e)) (he:P.underlying e=AA .bool) (hc:P.cellsOf e=1) (hv: ∃a l c,v=.slice a l c) (h:DataW.Trod enc P W 0 sp held t v d p):
  ∃A n c,∃ks:List Bool,v=.slice A n c/\Rd W 1 A n c (ks.map Value.bool)/\ks.length=n/\n+1<=Rows.uptoBulk d:=by
 obtain⟨A,n,c,zs,h1,h2,h3,h4⟩:=AOy Value.bool (λ_=>1) ht hc (AAK he) hv h;rw[ACW] at h4;exact⟨A,n,c,zs,h1,h2,h3,Aa⟩
theorem Xk(hl:laidOutB P=true){W W':AL}(hb:Below W.heap.size W W'){sp:Nat->Bool}: ∀(ts:List Am) (vs:List AQ) (ds:List (Dt H)) (ps:List GZ),
  (∀t∈ts,P.readableRec t=true/\t<P.types.size)->DataW.TrodAll enc P W 0 (λ_=>true) true ts vs ds ps->(∀x∈ps,x.block<W.heap.size)->(∀x∈ps,sp x.block=true)->DataW.TrodAll enc P W' 0 sp true ts vs ds ps
 | [],[],[],ps,_,h,_,_=>h
 |t::ts,v::vs,d::ds,ps,hr,h,hlt,hsp=>by
  obtain⟨p,q,h1,h2,rfl⟩:=h;refine⟨p,q,WideElems.Trod_stays hl (hr t AV).1 (hr t AV).2 h1 (λx hx=>hb.same (hlt x (by simp[hx]))) (λx hx=>hsp x (by simp[hx])),?_,rfl⟩;exact Xk hl hb ts vs ds q (λt ht=>hr t (by simp[ht])) h2 (λx hx=>hlt x (by simp[hx])) (λx hx=>hsp x (by simp[hx]))
theorem AHr{fn:Func}{tb:Am}{ds gs:List (Dt H)}
  (hl:laidOutB P=true) (hW:DataW.Whole enc P fn.params.toList s.vars false W args.toList ds gs before) (hvars:s.vars=[]) (hrt:fn.resultTypes= #[tb]) (htb:P.underlying tb=AA .bool)
  (hrd: ∀t∈fn.params.toList,P.readableRec t=true/\t<P.types.size)
  (hres:(s.fn H (ds++gs)).results=[.lit (.bool true)]) (hargs:(s.fn H (ds++gs)).args=ds) (hvs:(s.fn H (ds++gs)).vars=[]) (hb:Below W.heap.size W W'):
  s.post enc P fn false true false false W args (.bool true) W':=by
 have hW':=hW;obtain⟨p,q,hA,hV,rfl,hfz,hnd⟩:=hW;rw[hvars] at hV;obtain⟨rfl,rfl⟩:=trodVars_none hV;have hlt: ∀x∈p,x.block<W.heap.size:=λx hx=>hW'.lt x (by simp[hx]);refine pz (pa:=p) (pv:=[]) hW' (λ_ _ _=>?_) (λsp hsp=>?_) (λsp _=>?_) AV hb ?_
 ·rw[hrt,hres];exact trodAll_mk1 (shut_bool htb _)
 ·rw[hargs];exact Xk hl hb _ _ _ _ hrd hA hlt (λx hx=>hsp x (by simp[hx]))
 rw[hvars,hvs];rfl;intro j t r hj hr;rw[hrt] at hj hr
 match j,hj,hr with
 |0,hj,hr=>
  simp[Value.resultList] at hj hr;subst hj;subst hr;exact okWide_bool_mk htb _
end
end
section
variable {i:Nat}{P:BM}{e kt t:Am}
structure wW (P:BM) (kt:Am) {κ:Type} [DecidableEq κ] (kv:κ->AQ):Prop where
 find: ∀(k:κ) (es:List Du) (ks:List κ) (w:AL),es.map (·.key)=ks.map kv->(YD kt (kv k) es).run P w=.ok ((ks.idxOf? k).bind λi=>(es[i]?).map λe=>(i,e.val)) w
 check: ∀(k:κ) (e:Bool) (w:AL),(Uo e 10000 kt (kv k)).run P w=.ok () w
 bits: ∀(k:κ),Qy 10000 (kv k) (kv k)=true
 inj: ∀a b:κ,kv a=kv b->a=b
structure AAL (P:BM) (kt:Am) {κ:Type} [DecidableEq κ] (kv:κ->AQ) (w:AL) (k:κ) (ks:List κ):Prop where
 find: ∀es:List Du,es.map (·.key)=ks.map kv->(YD kt (kv k) es).run P w=.ok ((ks.idxOf? k).bind λi=>(es[i]?).map λe=>(i,e.val)) w
 check: ∀e:Bool,(Uo e 10000 kt (kv k)).run P w=.ok () w
 bits:Qy 10000 (kv k) (kv k)=true
theorem wW.at_{κ:Type}[DecidableEq κ]{kv:κ->AQ}(h:wW P kt kv)(w:AL)(k:κ)(ks:List κ):AAL P kt kv w k ks:=⟨λes he=>h.find k es ks w he,λe=>h.check k e w,h.bits k⟩
theorem findNow_spec{kind:TypeDesc}{κ:Type}[DecidableEq κ]{kv:κ->Value}(h: ∀a b:κ,Instr.sameNow kind (kv a) (kv b)=some (decide (a=b)))(k:κ): ∀(es:List MapEntry) (ks:List κ) (i:Nat),es.map (·.key)=ks.map kv->
  Instr.findNow kind (kv k) es i=some ((ks.idxOf? k).bind λj=>(es[j]?).map λe=>(i+j,e.val))
 | [],[],i,_=>by simp[Instr.findNow]| [],k'::ks,i,he=>by simp at he|e::es,[],i,he=>by simp at he
 |e::es,k'::ks,i,he=>by
  simp only[BN,Ir] at he;unfold Instr.findNow;rw[he.1,h];by_cases hk:k=k'
  ·subst hk;rw[RH,beq_self_eq_true];simp
  simp only[hk,decide_false];rw[findNow_spec h k es ks (i+1) he.2,RH];(have:(k'==k)=false:=by simp;exact λe=>hk e.symm);rw[this]
  cases ks.idxOf? k with
  |none=>rfl|some j=>
   simp[SB,mg 1 j]
theorem Cm(h:P.underlying kt=some .string):wW P kt (λz:ByteArray=>Value.string z) where
 find:=λk es ks w he=>by
  have:=findNow_spec (kind:=.string) (kv:=λz:ByteArray=>WL z) (λa b=>by
   simp only[Instr.sameNow,DR]
   rw[mi,MapKept.bytes_beq];simp) k es ks 0 he
  simp only[Ky] at this;simp[YD,IK h,this]
 check:=λk e w=>by
  show (Uo e (9999+1) kt (.string k)).run P w=_;unfold Uo;simp[IK h]
 bits:=λk=>by simp only[Qy];exact (MapKept.bytes_beq k k).2 rfl
 inj:=λa b h=>by injection h
theorem Sl{α β:Type}(f:α->β)(l:List α)(i:Nat):(l.map f).eraseIdx i=(l.eraseIdx i).map f:=by
 induction l generalizing i with
 |nil=>rfl
 |cons x r ih=>cases i with
  |zero=>rfl|succ i=>simp[ih]
section lists
variable {κ α:Type} [DecidableEq κ]
def BJ (m:List (κ×α)) (k:κ):Option α:=((m.map Ac).idxOf? k).bind λi=>(m[i]?).map (·.2)
def Dp (m:List (κ×α)) (k:κ) (v:α):List (κ×α):=match (m.map Ac).idxOf? k with
 |some i=>m.set i (k,v)|none=>m++[(k,v)]
def JA (m:List (κ×α)) (k:κ):List (κ×α):=match (m.map Ac).idxOf? k with
 |some i=>m.eraseIdx i|none=>m
theorem Jk{l:List κ}{x:κ}(h:l.idxOf? x=AA i):l[i]? =AA x:=by
 induction l generalizing i with
 |nil=>simp at h|cons y r ih=>
  simp only[RH] at h;split at h
  ·rename_i hxy;(cases h);simp at hxy;simp[hxy]
  cases hr:r.idxOf? x with
  |none=>rw[hr] at h;simp at h|some k=>
   rw[hr] at h;simp at h;subst h;simpa using ih hr
theorem Sr{l:List κ}{x:κ}:l.idxOf? x=AB↔x∉l:=by
 induction l with
 |nil=>simp|cons y r ih=>
  simp only[RH,BF,not_or];split
  ·rename_i h;simp at h;simp[h]
  rename_i h;(have h': ¬x=y:=by intro e;exact h (by simp[e]));rw[Option.map_eq_none_iff,ih];simp[h']
theorem ACX{l:List κ}(hn:l.Nodup){x:κ}(h:l[i]? =AA x):l.idxOf? x=AA i:=by
 have hm:x∈l:=Bi h
 cases hx:l.idxOf? x with
 |none=>exact Ak hm (Sr.1 hx)|some k=>
  have hk:=Jk hx;have hkl:=(CP.1 hk).1;have:=(List.getElem?_inj (i:=k) (j:=i) hkl hn).1 (by rw[hk,h]);rw[this]
theorem CQ{m:List (κ×α)}{k:κ}{v:α}(h:BJ m k=AA v):(k,v)∈m:=by
 unfold BJ at h
 cases hx:(m.map Ac).idxOf? k with
 |none=>rw[hx] at h;cases h|some i=>
  rw[hx] at h;simp only[WG] at h;have h1:=Jk hx;rw[Ba] at h1
  cases hm:m[i]? with
  |none=>rw[hm] at h;cases h|some p=>
   rw[hm] at h h1;simp at h h1;have:=Bi hm;rw[<- h1,<- h];exact this
theorem RX{m:List (κ×α)}{k:κ}{v:α}(hn:(m.map Ac).Nodup)(h:(k,v)∈m):BJ m k=AA v:=by
 obtain⟨i,hi⟩:=RI h;(have:(m.map Ac)[i]? =AA k:=by rw[Ba,hi];rfl);unfold BJ;rw[ACX hn this];simp[hi]
theorem Ey{m:List (κ×α)}{k:κ}:BJ m k=AB↔k∉m.map Ac:=by
 unfold BJ;constructor
 ·intro h
  cases hx:(m.map Ac).idxOf? k with
  |none=>exact Sr.1 hx|some i=>
   rw[hx] at h;have h1:=Jk hx;rw[Ba] at h1;simp only[WG] at h
   cases hm:m[i]? with|none=>rw[hm] at h1;cases h1|some p=>rw[hm] at h;cases h
 intro h;rw[Sr.2 h];rfl
theorem PQ{m:List (κ×α)}(hn:(m.map Ac).Nodup)(k:κ)(v:α):((Dp m k v).map Ac).Nodup:=by
 unfold Dp
 cases hx:(m.map Ac).idxOf? k with
 |none=>
  simp only[FK,BN,EG];rw[OH];exact⟨hn,AV,λa ha b hb=>by simp at hb;subst hb;rintro rfl;exact Sr.1 hx ha⟩
 |some i=>
  have h1:=Jk hx;simp only[VO]
  have:(m.map Ac).set i k=m.map Ac:=by
   apply OE;intro j;rw[YE];split
   ·rename_i hij;subst hij;rw[BU (CP.1 h1).1,h1]
   rfl
  rw[this];exact hn
theorem Su{m:List (κ×α)}(hn:(m.map Ac).Nodup)(k k':κ)(v:α):BJ (Dp m k v) k'=if k=k' then AA v else BJ m k':=by
 have hn':=PQ hn k v;by_cases h:k=k'
 ·subst h;rw[BU rfl];apply RX hn';unfold Dp
  cases hx:(m.map Ac).idxOf? k with
  |none=>simp|some i=>
   have h1:=(CP.1 (Jk hx)).1;simp at h1;exact Bi (i:=i) (by rw[YE,BU rfl,BU h1])
 rw[BL h]
 cases hg:BJ m k' with
 |some u=>
  apply RX hn';have hm:=CQ hg;unfold Dp
  cases hx:(m.map Ac).idxOf? k with
  |none=>simp[hm]|some i=>
   obtain⟨j,hj⟩:=RI hm;have h1:=Jk hx;refine Bi (i:=j) ?_;rw[YE];split
   ·rename_i hij;subst hij;rw[Ba,hj] at h1;simp at h1;exact Ak h1.symm h
   exact hj
 |none=>
  rw[Ey] at hg⊢;unfold Dp
  cases hx:(m.map Ac).idxOf? k with
  |none=>
   simp only[FK,BN,EG,Bj,CB,not_or];exact⟨hg,λe=>h e.symm⟩
  |some i=>
   intro hm;simp only[VO] at hm;rcases lL hm with h2|h2;exact hg h2;exact h h2.symm
end lists
def Mp {κ:Type} (w:AL) (b:Nat) (kv:κ->AQ) (m:List (κ×AQ)):Prop:=
 ∃es clock,w.heap[b]? =AA (.map es clock)/\es.toList.map (λe=>(e.key,e.val))=m.map (λp=>(kv p.1,p.2))/\(m.map Ac).Nodup/\(es.toList.map (·.born)).Nodup/\∀e∈es.toList,e.born<clock
section mp0
variable {κ:Type} {w w':AL} {b:Nat} {kv:κ->AQ} {m:List (κ×AQ)} {L:List Nat}
theorem Mp.lt(h:Mp w b kv m):b<w.heap.size:=by
 obtain⟨es,c,hb,_⟩:=h;exact (Dj.1 hb).1
theorem Mp.Ap(h:Mp w b kv m)(hc:AZ L w w')(hn:b∉L):Mp w' b kv m:=by
 have hl:=h.lt;obtain⟨es,c,hb,hr⟩:=h;exact⟨es,c,(hc.block b hl hn).trans hb,hr⟩
theorem Mp.nodup(h:Mp w b kv m):(m.map Ac).Nodup:=by
 obtain⟨es,c,_,_,h3,_⟩:=h;exact h3
theorem Mp.made(w:AL)(kv:κ->AQ):Mp (w.alloc (.map #[] 0)) w.heap.size kv []:=⟨#[],0,(MapKept.heap_alloc w _).1,AV,AV,AV,AV⟩
theorem Mp.keys{es:Array Du}(h:es.toList.map (λe=>(e.key,e.val))=m.map (λp=>(kv p.1,p.2))):es.toList.map (·.key)=(m.map Ac).map kv:=by
 have:=congrArg (List.map Ac) h;rw[En,En] at this;rw[En];exact this
end mp0
section mp
variable {κ:Type} [DecidableEq κ] {P:BM} {w w':AL} {b:Nat} {kv:κ->AQ} {m:List (κ×AQ)}
theorem Mp.wY(h:Mp w b kv m)(k:κ)(hK:AAL P kt kv w k (m.map Ac))(ht:P.underlying t=AA (.map kt e)){z:AQ}(hz:(GY e).run P w=.ok z w):
  (Po t (.map (AA b)) (kv k) false).run P w=.ok ((BJ m k).getD z) w/\
  (Po t (.map (AA b)) (kv k) true).run P w=.ok (.tuple #[(BJ m k).getD z,.bool (BJ m k).isSome]) w:=by
 obtain⟨es,c,hb,he,_⟩:=h;have hf:=hK.find es.toList (Mp.keys he)
 have hv: ∀i:Nat,(es.toList[i]?).map (λe:Du=>e.val)=(m[i]?).map (λp:κ×AQ=>p.2):=λi=>by
  have:=congrArg (λl=>(l[i]?).map Prod.snd) he;simp only[Ba,Option.map_map] at this;exact this
 have hrun:(getObj b).run P w=.ok (.map es c) w:=by simp[getObj,Dw,hb]
 have key: ∀(ok:Bool),(Po t (.map (AA b)) (kv k) ok).run P w=.ok (if ok then .tuple #[(BJ m k).getD z,.bool (BJ m k).isSome] else (BJ m k).getD z) w:=by
  intro ok;unfold Po BJ;simp only[Eu,IK ht,Oy,hrun,Yr,hK.check,hf]
  cases hx:(m.map Ac).idxOf? k with
  |none=>cases ok<;>simp[hz]|some i=>
   have h1:=Jk hx;rw[Ba] at h1;have:=hv i
   cases hmi:m[i]? with
   |none=>rw[hmi] at h1;cases h1|some p=>
    rw[hmi] at this
    cases hei:es.toList[i]? with
    |none=>rw[hei] at this;cases this|some e0=>
     rw[hei] at this;simp at this;(have AUB:es[i]? =AA e0:=by simpa using hei);cases ok<;>simp[AUB,hmi,this]
 exact⟨key false,key true⟩
theorem Mp.lookup(h:Mp w b kv m){t kt e:Am}(hK:wW P kt kv)(ht:P.underlying t=AA (.map kt e)){z:AQ}(hz:(GY e).run P w=.ok z w)(k:κ):
  (Po t (.map (AA b)) (kv k) false).run P w=.ok ((BJ m k).getD z) w/\
  (Po t (.map (AA b)) (kv k) true).run P w=.ok (.tuple #[(BJ m k).getD z,.bool (BJ m k).isSome]) w:=h.wY k (hK.at_ w k _) ht hz
theorem Mp.gX(h:Mp w b kv m)(k:κ)(hK:AAL P kt kv w k (m.map Ac))(ht:P.underlying t=AA (.map kt e))(v:AQ):
  ∃w',(jB t (.map (AA b)) (kv k) v).run P w=.ok () w'/\Mp w' b kv (Dp m k v)/\AZ [b] w w':=by
 obtain⟨es,c,hb,he,hn,hs,hc⟩:=h;have hf:=hK.find es.toList (Mp.keys he);(have hrun:(getObj b).run P w=.ok (.map es c) w:=by simp[getObj,Dw,hb]);have hlt:b<w.heap.size:=(Dj.1 hb).1;have hset: ∀o:Obj,(I5 b o).run P w=.ok () {w with heap:=w.heap.setIfInBounds b o}:=λo=>by simp[I5,Dw,hb]
 have EI: ∀o:Obj,AZ [b] w {w with heap:=w.heap.setIfInBounds b o}:=λo=>⟨rfl,rfl,rfl,AV,λi hi hne=>by
  simp only[ABL]
  rw[BL (λe=>hne (by simp[e]))]⟩
 have hat: ∀o:Obj,({w with heap:=w.heap.setIfInBounds b o}:AL).heap[b]? =AA o:=λo=>by simp[hlt]
 cases hx:(m.map Ac).idxOf? k with
 |none=>
  refine⟨_,?_,⟨es.push {key:=kv k,val:=v,born:=c},c+1,hat _,?_,PQ hn k v,?_,?_⟩,EI _⟩
  ·unfold jB;simp only[Eu,IK ht,Oy,hrun,hK.check,hf,hx];simp[hset]
  simp only[Dp,hx,yO,FK,he,BN,EG]
  ·simp only[yO,FK,BN,EG];rw[OH];refine⟨hs,AV,λa ha b' hb'=>?_⟩;obtain⟨e0,he0,rfl⟩:=CG.1 ha;simp at hb';subst hb';have:=hc e0 he0;omega
  intro e0 he0;simp only[yO,Bj,CB] at he0;rcases he0 with he0|rfl;have:=hc e0 he0;omega;simp
 |some i=>
  have h1:=Jk hx
  have hil:i<es.size:=by
   have:=(CP.1 h1).1;have e2:=congrArg NZ he;simp at this e2;omega
  have hei:es[i]? =AA es[i]:=FZ hil
  have hkey:(es[i]).key=kv k:=by
   have e3:=congrArg (λl=>l[i]?) (Mp.keys he);simp only[Ba,ZN,hei] at e3;rw[Ba] at h1
   cases hmi:m[i]? with
   |none=>rw[hmi] at h1;cases h1|some p=>
    rw[hmi] at e3 h1;simp at e3 h1;rw[e3,h1]
  have hml:(es.modify i λe=>{e with key:=kv k,val:=v}).toList=es.toList.set i {es[i] with key:=kv k,val:=v}:=by
   apply OE;intro j;rw[ZN,mZ,YE,ZN];by_cases hij:i=j;subst hij;simp[hil];rw[BL hij,BL hij]
  refine⟨_,?_,⟨es.modify i λe=>{e with key:=kv k,val:=v},c,hat _,?_,PQ hn k v,?_,?_⟩,EI _⟩
  ·unfold jB;simp only[Eu,IK ht,Oy,hrun,hK.check,hf,hx];(have ASG:(ABD (kv k) (kv k)).run P w=.ok (kv k) w:=by simp[ABD,hK.bits]);simp[hei,hkey,ASG,hset]
  ·rw[hml];simp only[Dp,hx,VO,he]
  ·rw[hml,VO]
   have:(es.toList.map (·.born)).set i (es[i]).born=es.toList.map (·.born):=by
    apply OE;intro j;rw[YE];split
    ·rename_i hij;subst hij;simp[hil]
    rfl
   rw[this];exact hs
  intro e0 he0;rw[hml] at he0;rcases lL he0 with h2|h2;exact hc e0 h2;subst h2;exact hc es[i] AV
theorem Mp.update(h:Mp w b kv m)(hK:wW P kt kv)(ht:P.underlying t=AA (.map kt e))(k:κ)(v:AQ):
  ∃w',(jB t (.map (AA b)) (kv k) v).run P w=.ok () w'/\Mp w' b kv (Dp m k v)/\AZ [b] w w':=h.gX k (hK.at_ w k _) ht v
theorem Mp.del(h:Mp w b kv m){ty:Am}(hK:wW P kt kv)(ht:P.underlying t=AA (.map kt e))(k:κ)(at2:Am):
  ∃w',(tq #[t,at2] ty #[.map (AA b),kv k]).run P w=.ok (.tuple #[]) w'/\Mp w' b kv (JA m k)/\AZ [b] w w':=by
 obtain⟨es,c,hb,he,hn,hs,hc⟩:=h;have hf:=hK.find k es.toList _ w (Mp.keys he);(have hrun:(getObj b).run P w=.ok (.map es c) w:=by simp[getObj,Dw,hb]);have hlt:b<w.heap.size:=(Dj.1 hb).1;have hset: ∀o:Obj,(I5 b o).run P w=.ok () {w with heap:=w.heap.setIfInBounds b o}:=λo=>by simp[I5,Dw,hb]
 have EI: ∀o:Obj,AZ [b] w {w with heap:=w.heap.setIfInBounds b o}:=λo=>⟨rfl,rfl,rfl,AV,λi hi hne=>by
  simp only[ABL]
  rw[BL (λe=>hne (by simp[e]))]⟩
 have hat: ∀o:Obj,({w with heap:=w.heap.setIfInBounds b o}:AL).heap[b]? =AA o:=λo=>by simp[hlt]
 cases hx:(m.map Ac).idxOf? k with
 |none=>
  refine⟨_,?_,⟨es,c,hat _,by simp only[JA,hx,he],by simp only[JA,hx];exact hn,hs,hc⟩,EI _⟩;unfold tq;simp[IK ht,hrun,hK.check,hf,hx,hset]
 |some i=>
  have h1:=Jk hx
  have hil:i<es.size:=by
   have:=(CP.1 h1).1;have e2:=congrArg NZ he;simp at this e2;omega
  have hei:es[i]? =AA es[i]:=FZ hil
  have hel:(es.eraseIdxIfInBounds i).toList=es.toList.eraseIdx i:=by
   rw[Array.eraseIdxIfInBounds,dif_pos hil,Array.toList_eraseIdx]
  refine⟨_,?_,⟨es.eraseIdxIfInBounds i,c,hat _,?_,?_,?_,?_⟩,EI _⟩
  ·unfold tq;simp[IK ht,hrun,hK.check,hf,hx,hset,hei]
  ·rw[hel];simp only[JA,hx,<- Sl,he]
  ·simp only[JA,hx,<- Sl];exact hn.sublist (yP _ _)
  ·rw[hel,<- Sl];exact hs.sublist (yP _ _)
  intro e0 he0;rw[hel] at he0;exact hc e0 ((yP _ _).subset he0)
end mp
end
section
variable {c j n:Nat}{A:Option Ag}{P:BM}{t tn:Am}{w:AL}
abbrev bv (zs:List Int):List AQ:=zs.map (Jq .u8)
abbrev iv (zs:List Int):List AQ:=zs.map (Jq .i64)
theorem AAM(zs:List Int): ∀u∈bv zs,u.oneCell'=true:=ints_oneCell _ _
def Lm (e:Am) (sz:Nat) (w:AL) (xs:List AQ) (n:Nat) (en:Fe) (w':AL):Prop:=
 ∃A c,en=.returned (.slice A n c)/\Own w' e sz A n c xs/\AZ [] w w'/\∀k∈bo A,w.heap.size<=k
theorem Rt:Ety Ae 62 5 1 1 (.int .u8 0):=.mk' wU Az rfl Aq
theorem AKy:Ety Ae 81 3 1 8 (.int .i64 0):=.mk' AT8 Az rfl Aq
theorem ACY(k:IntKind)(x:Int): ∀u∈(#[Jq k x]:Array AQ).toList,u.oneCell'=true:=by simp[Jr]
theorem take_snoc{α:Type}(l:List α)(k:Nat)(x:α)(h:l[k]? =AA x):l.take (k+1)=l.take k++[x]:=by
 rw[Py,h];rfl
theorem qA{k:IntKind}{zs:List Int}(h:Rd w 1 A n c (zs.map (Jq k)))(hj:j<n):
  ∃ad x,A=AA ad/\zs[j]? =AA x/\w.cell? (ad.add j)=AA (.int k x):=by
 obtain⟨ad,u,h1,h2,h3⟩:=h.Yu hj;rw[Ba] at h2
 cases hz:zs[j]? with|none=>rw[hz] at h2;cases h2|some x=>rw[hz] at h2;simp at h2;subst h2;exact⟨ad,x,h1,rfl,h3⟩
theorem wZ(A:Option Ag)(n c:Nat)(zs:List Int)(w:AL)(hn:n<=1073741824)(hrd:Rd w 1 A n c (bv zs)):
  Au Ae 53 #[.slice A n c] w (Lm 5 1 w (bv zs) n):=by
 (have hl:zs.length=n:=by have:=hrd.1;simp at this;omega);have HR:=AO hrd;have HL:=AO hl;clear hrd hl;go_enter AN7,Tryz.ntmps53;go_wp2;go_loopw [3,4] (λv i wr=>∃(k:Nat) (A':Option Ag) (c':Nat),k<=n/\i=.int .i64 k/\v=.slice A' k c'/\Own wr 5 1 A' k c' ((bv zs).take k)/\AZ [] w wr/\(∀k∈bo A',w.heap.size<=k)) (λ_ i _=>n - (intOf i).toNat)
 case atStart=>
  exact⟨0,_,0,DW _,rfl,rfl,Own.lit w 5 1 #[] 0 Aq rfl,(AZ.refl _ _).alloc _,AV⟩
 obtain⟨k,A',c',hk,rfl,rfl,hown,EI,hnew⟩:=hrel;by_cases hlt:k<n
 ·obtain⟨ad,x,rfl,hx,hcell⟩:=qA (HR.out.Ap EI AV) hlt;have HX:=AO hx;have HN:=AO hnew;clear hx hnew;(go_wp2_with (at_builtin;refine D8 rfl _ _ rfl Rt rfl (hown.Ap ((AZ.refl [] wr).alloc _) AV) rfl (Own.lit wr 5 1 #[.int .u8 x] 1 Aq rfl).rd (ACY _ _) Nb Aa ?_;intro A2 c2 w2 hown2 PR KE _));go_roundw
  case rel=>
   refine⟨k+1,A2,c2,Aa,by go_num,rfl,?_,(EI.alloc _).trans PR (λy hy=>.inr (HN.out y hy)),λy hy=>?_⟩;rw[take_snoc _ _ (.int .u8 x) (by simp[HX.out])];exact hown2;rcases KE y hy with h1|h1;exact HN.out y h1;have h2:=EI.size;simp at h1;omega
  simp[intOf];omega
 go_wp2;go_ret;(have hkn:k=n:=by omega);subst hkn;exact⟨A',c',rfl,by rw[<- Ea (l:=bv zs) (i:=k) (by simp[HL.out])];exact hown,EI,hnew⟩
theorem clone_any(A:Option Ag)(n c:Nat)(zs:List Int)(w:AL)(hn:n<=1073741824)(hrd:Rd w 1 A n c (bv zs)):
  Au Ae 78 #[.slice A n c] w (Lm 5 1 w (bv zs) n):=by
 cases A with
 |none=>
  have hc:=hrd.2.2.2.1 rfl;(have hn0:n=0:=by have:=hrd.2.1;omega);subst hc;subst hn0;have hz:bv zs=[]:=RD (by simpa using hrd.1);have HZ:=AO hz;have qT:=λ(w:AL)=>Lib.run_eql_slice_nil (P:=Ae) w 62 5 AB 0 0 0 0 wU;clear hz hrd;go_enter AKH,Tryz.ntmps78;go_wp2;go_ret;exact⟨AB,0,rfl,by rw[HZ.out];exact Own.nil _ _ _,AZ.refl _ _,AV⟩
 |some ad=>
  have HR:=AO hrd;clear hrd;have qT:=λ(w:AL)=>Lib.run_eql_slice_nil (P:=Ae) w 62 5 (AA ad) n c 0 0 wU;go_enter AKH,Tryz.ntmps78;(go_wp2_with (at_builtin;refine D8 rfl _ _ rfl Rt rfl (Own.lit w 5 1 #[] 0 Aq rfl) rfl (HR.out.Ap ((AZ.refl [] w).alloc _) AV) (AAM zs) Nb Aa ?_;intro A2 c2 w3 hown4 ASH ASI _));go_ret
  exact⟨A2,c2,rfl,by simpa using hown4,((AZ.refl [] w).alloc _).trans ASH AV,λk hk=>by
   rcases ASI k hk with h1|h1;simp at h1;omega
   have:=h1.1;simp at this;omega⟩
theorem WV(z:AQ)(hz:z.cells= #[z])(k:Nat):(Nw z.cells k).toList=MJ k z:=by
 apply OE;intro i;rw[hz];simp only[Nw,ZO,Array.toList_range,Ba,AFx];by_cases h:i<k
 ·rw[Bo (by simpa using h)];simp[h,yQ]
 rw[H9 (by simpa using h)];simp[h]
theorem qB{ty e:Am}{bytes:Nat}{z:AQ}(he:Ety P t e 1 bytes z)(htn:P.underlying tn=AA (.int .i64))(hz1:z.cells= #[z])(hz2:z.oneCell'=true)
  {A:Option Ag} {n c:Nat} {xs:List AQ} (hown:Own w e 1 A n c xs) (k:Nat) (h63:n+k<=ER) (hb:(n+k)*bytes<=140737488355328):
  ∃A' c' w',(Pn #[t,tn] ty #[.slice A n c,.int .i64 k]).run P w=.ok (.slice A' (n+k) c') w'/\Own w' e 1 A' (n+k) c' (xs++MJ k z)/\AZ (bo A) w w'/\
   (∀k∈bo A',k∈bo A\/(w.heap.size<=k/\k<w'.heap.size)):=by
 obtain⟨ht,⟨i,hi,hz,hsz,hby⟩,hzs,hpos⟩:=he;subst hby
 have hkb:k*i.bytes<=281474976710656:=by
  have:k*i.bytes<=(n+k)*i.bytes:=Td _ Aa;omega
 (have hw:IntKind.i64.wrap (k:Int)=k:=by rw[NY];simp only[ER] at h63;omega);(have hneg: ¬((k:Int)<0):=by omega);(have h48i: ¬(281474976710656<(k:Int)*(i.bytes:Int)):=by rw[<- Int.natCast_mul];omega);by_cases hk:k=0
 ·subst hk;(have hw0:IntKind.i64.wrap 0=0:=by decide);have hnc:n<=c:=hown.rd.2.1;refine⟨A,c,w,?_,by simpa using hown,AZ.refl _ _,λk hk=>.inl hk⟩;cases A<;>simp[Pn,IK ht,IK htn,sizeOf,I4,hi,asInt,asIntOf,hw0,hnc,storeCells]
 have hns: ¬(k*i.size=0):=by rw[hsz];omega
 have grown: ∀old,∃A' c' w',(.ok (.slice (AA ⟨w.heap.size,0,AB⟩) (n+k) (grownCap w (n+k) old e)) (w.drew.alloc (.cells (xs.toArray++Nw z.cells k++Nw z.cells (grownCap w (n+k) old e - (n+k))) e)):Result AQ)=.ok (.slice A' (n+k) c') w'/\
   Own w' e 1 A' (n+k) c' (xs++MJ k z)/\AZ (bo A) w w'/\(∀k∈bo A',k∈bo A\/(w.heap.size<=k/\k<w'.heap.size)):=by
  intro old;have hge:=grownCap_ge w (n+k) old e;have hcm:grownCap w (n+k) old e<=ER:=grownCap_le_maxLen w (n+k) old e h63;(have hxl:xs.length=n:=by have:=hown.1;omega);refine⟨_,_,_,rfl,⟨by simp[hxl],.inr ⟨w.heap.size,_,_,rfl,DW _,heap_alloc_new w.drew _,hge,hcm,?_,?_⟩⟩,((AZ.refl _ _).drew).alloc _,?_⟩
  ·simp only[nJ,Iq,size_zeroCells,hzs,hxl];omega
  ·simp only[AIq,WV z hz1];exact yR (by simp[hxl])
  intro j hj;right;simp at hj;subst hj;simp
 by_cases hroom:n+k<=c
 ·rcases hown.form with ⟨rfl,rfl,rfl,rfl⟩|⟨g,cur,rfl,hbk,hnc,hcm,hcs,htk⟩;omega;(have hfit:n*1+(MJ k z).length<=cur.size:=by simp;omega);have hst:=run_storeCells_at P g (n*1) e (MJ k z) 0 cur w hbk (by simpa using hfit) (by simp[hz2]);simp only[Nat.add_zero,OI,AMO] at hst;(have hxl:xs.length=n:=by have:=hown.1;omega);(have hcl:cur.toList.length=cur.size:=by simp);refine⟨AA ⟨g,0,AB⟩,c,_,?_,⟨by simp[hown.1],.inr ⟨g,c,_,rfl,DW _,setRow_heap w g cur (cur.toList.take n++MJ k z++cur.toList.drop (n+k)).toArray e _ hbk,hroom,hcm,?_,?_⟩⟩,⟨rfl,rfl,rfl,by simp[World.setRow],λj _ hj=>setRow_other w g j _ (by simpa using hj)⟩,λj hj=>.inl hj⟩;simp[Pn,IK ht,IK htn,sizeOf,I4,GY,hi,hz,asInt,asIntOf,hw,hneg,h48i,hroom,Addr.add_lit,hsz,hk,WV z hz1,hst];simp;omega;simp only[OI] at htk⊢;rw[<- htk];exact yR (by simp;omega)
 have hc:c<n+k:=by omega
 have hold:(MP i.size n (.slice A n c)).run P w.drew=.ok xs.toArray w.drew:=by
  rcases hown.form with ⟨rfl,rfl,rfl,rfl⟩|⟨g,cur,rfl,hbk,hnc,hcm,hcs,htk⟩;exact run_firstCells_none (P:=P) w.drew _ _ _ _;exact run_firstCells_some (P:=P) w.drew i.size n ⟨g,0,AB⟩ n c xs (by rw[hsz];exact hown.1) (World.ownsRow.cells hown (g:=g) rfl)
 have e0:=Lib.run_append_grow_zeros (P:=P) w t tn ty e i z .i64 .i64 ht htn hi hz A n c xs hold k Aa Aa hc (by simp only[ER] at h63;omega) hkb (growslice_fits Aa hb);rw[e0];exact grown c
theorem dG{ops:Array BX}{rest:List BX}{o:BX}{a:Act}{Q:Exit->Act->AL->Prop}(hgd:o.guard=AB)(s x:DU)
  (ho:o.op=.call {callee:=.builtin .append,args:=#[s,x],argTypes:=#[t,tn]})
  {e:Am} {bytes:Nat} {z:AQ} (he:Ety P t e 1 bytes z) (htn:P.underlying tn=AA (.int .i64)) (hz1:z.cells= #[z]) (hz2:z.oneCell'=true)
  {A:Option Ag} {n c:Nat} {xs:List AQ} (hs:a.eval s=.slice A n c) (hown:Own w e 1 A n c xs) (k:Nat) (hx:a.eval x=.int .i64 k) (h63:n+k<=ER) (hb:(n+k)*bytes<=140737488355328)
  (h: ∀A' c' w',Own w' e 1 A' (n+k) c' (xs++MJ k z)->AZ (bo A) w w'->(∀k∈bo A',k∈bo A\/(w.heap.size<=k/\k<w'.heap.size))->
   wpList P ops Q rest (a.put o.dst (.slice A' (n+k) c')) w'):wpList P ops Q (o::rest) a w:=by
 obtain⟨A',c',w',hr,h2,h3,h4⟩:=qB (ty:=o.type) he htn hz1 hz2 hown k h63 hb;exact Lib.wpList_append_run w hgd s x t tn ho _ _ hs hx _ w' hr (h A' c' w' h2 h3 h4)
def ends:Nat->List (List Int)->List Int
 |_,[]=>[]|b,x::r=>((b+x.length:Nat):Int)::ends (b+x.length) r
theorem AE9(b:Nat)(ws:List (List Int))(x:List Int):ends b (ws++[x])=ends b ws++[((b+ws.flatten.length+x.length:Nat):Int)]:=by
 induction ws generalizing b with|nil=>simp[ends]|cons y r ih=>simp[ends,ih];omega
theorem AKz(b:Nat)(ws:List (List Int))(i:Nat)(x:List Int)(h:ws[i]? =AA x):(ends b ws)[i]? =AA (((b+(ws.take i).flatten.length+x.length:Nat):Int)):=by
 induction ws generalizing b i with
 |nil=>simp at h|cons y r ih=>
  cases i with|zero=>simp at h;subst h;simp[ends]|succ i=>simp at h;simp[ends,ih _ i h];omega
theorem Sv(ws:List (List Int))(x:List Int):(ws++[x]).flatten.length=ws.flatten.length+x.length:=by
 rw[lM,IA];simp
def Wj (w:AL) (g:Nat) (L:List Nat) (base:List Int) (ws:List (List Int)):Prop:=
 ∃A n c M m d s,Bv w g 183 #[.slice A n c,.int .i64 (s:Nat),.slice M m d]/\Own w 5 1 A n c (bv (base++ws.flatten))/\
  Own w 3 1 M m d (iv (ends base.length ws))/\L=g::(bo A++bo M)/\n=base.length+ws.flatten.length/\m=ws.length/\s=base.length
theorem Wj.lt{w:AL}{g:Nat}{L:List Nat}{base:List Int}{ws:List (List Int)}(h:Wj w g L base ws): ∀k∈L,k<w.heap.size:=by
 obtain⟨A,n,c,M,m,d,s,hb,h1,h2,rfl,_⟩:=h;intro k hk;simp only[BF,Bj] at hk;rcases hk with rfl|hk|hk;exact hb.lt;exact h1.lt k hk;exact h2.lt k hk
theorem Wj.Ap{w w':AL}{g:Nat}{L M:List Nat}{base:List Int}{ws:List (List Int)}(h:Wj w g L base ws)(hc:AZ M w w')(hn: ∀k∈L,k∉M):Wj w' g L base ws:=by
 obtain⟨A,n,c,M,m,d,s,hb,h1,h2,rfl,e⟩:=h;exact⟨A,n,c,M,m,d,s,hb.Ap hc (hn g AV),h1.Ap hc (λk hk=>hn k (by simp[hk])),h2.Ap hc (λk hk=>hn k (by simp[hk])),rfl,e⟩
def AM7 (w:AL) (zs:List Int) (e:Fe) (w':AL):Prop:=
 ∃g L,e=.returned (.pointer (AA ⟨g,0,AB⟩))/\Wj w' g L zs []/\AZ [] w w'/\∀k∈L,w.heap.size<=k
theorem new_any(A:Option Ag)(n c:Nat)(zs:List Int)(w:AL)(hn:n<=1073741824)(hrd:Rd w 1 A n c (bv zs)):
  Au Ae 59 #[.slice A n c] w (AM7 w zs):=by
 (have hl:zs.length=n:=by have:=hrd.1;simp at this;omega);have HL:=AO hl;clear hl;have k78:= @AKf;go_enter AOC,Tryz.ntmps59;(go_wp2_with (go_at_call 78;refine (clone_any A n c zs _ hn hrd).mono ?_;rintro e w1 ⟨A1,c1,rfl,hown,EI,hnew⟩));go_ret;have ho:=HL.out;subst ho;refine⟨w1.heap.size,_,rfl,⟨A1,_,c1,AB,0,0,_,Bv.new w1 183 _,?_,?_,rfl,?_,rfl,rfl⟩,EI.alloc _,?_⟩;simpa using hown.Ap ((AZ.refl [] w1).alloc _) AV;exact Own.nil _ _ _;simp;have:=EI.size;intro k hk;simp at hk;rcases hk with rfl|hk;exact this;exact hnew k hk
def AK0 (w:AL) (g:Nat) (L:List Nat) (base:List Int) (ws:List (List Int)) (e:Fe) (w':AL):Prop:=
 ∃L',e=.returned (.tuple #[])/\Wj w' g L' base ws/\AZ L w w'/\∀k∈L',k∈L\/w.heap.size<=k
theorem AAN(g:Nat)(L:List Nat)(base:List Int)(ws:List (List Int))(B:Option Ag)(k d:Nat)(xs:List Int)(w:AL)(h:Wj w g L base ws)(hk:0<k)(hlen:base.length+ws.flatten.length+k<=1073741824)
  (hws:ws.length<=1073741824) (hrd:Rd w 1 B k d (bv xs)):
  Au Ae 180 #[.pointer (AA ⟨g,0,AB⟩),.slice B k d] w (AK0 w g L base (ws++[xs])):=by
 obtain⟨A,n,c,M,m,dm,s,hb,h1,h2,rfl,hn,hm,hs⟩:=h;(have hlx:xs.length=k:=by have:=hrd.1;simp at this;omega);(have n63:n+k<=1073741824:=by omega);(have m63:m<=1073741824:=by omega);have HE:=AO (show n=base.length+ws.flatten.length/\m=ws.length/\s=base.length/\xs.length=k from ⟨hn,hm,hs,hlx⟩);have HR:=AO hrd;have HO:=AO h1;have HM:=AO h2;have HB:=AO hb;have c0:=hb.cell 0;have c1:=hb.cell 1;have c2:=hb.cell 2;have f0:=hb.frozen 0;simp at c0 c1 c2;clear hrd h1 h2 hb hn hm hs hlx hws;go_enter AKT,Tryz.ntmps180;(go_wp2_with (at_builtin;refine D8 rfl _ _ rfl Rt rfl HO.out rfl HR.out (AAM _) Nb Aa ?_;intro A1 cc1 w1 hown1 Zn qC _;have ff:=(HB.out.Ap Zn (λhh=>HO.out.Et HB.out Aq g hh rfl));have d0:=ff.cell 0;have d1:=ff.cell 1;have d2:=ff.cell 2;have e0:=ff.frozen 0;have e2:=ff.frozen 2;simp at d0 d1 d2));(have hb2:Bv (w1.setCell ⟨g,0,AB⟩ (.slice A1 (n+k) cc1)) g 183 #[.slice A1 (n+k) cc1,.int .i64 (s:Nat),.slice M m dm]:=by simpa using ff.FH 0 (.slice A1 (n+k) cc1));have hch:AZ [g] w1 (w1.setCell ⟨g,0,AB⟩ (.slice A1 (n+k) cc1)):=(AZ.refl [g] w1).setCell AV _;have HA1:=AO (hown1.Ap hch (λj hj hh=>hown1.Et ff Aq j hj (by simpa using hh)));have hM1:=HM.out.Ap Zn (λj hj hh=>HM.out.own_ne HO.out Aq j hj hh);have HM1:=AO (hM1.Ap hch (λj hj hh=>hM1.Et ff Aq j hj (by simpa using hh)));have HC:=AO (show AZ (g::bo A) w (w1.setCell ⟨g,0,AB⟩ (.slice A1 (n+k) cc1)) from (Zn.mono (by simp+contextual)).trans hch AV);clear hM1 hch d0 d1 d2 e0 e2 ff c0 c1 c2 f0
 generalize w1.setCell ⟨g,0,AB⟩ (.slice A1 (n+k) cc1)=W2 at*
 have d0:=hb2.cell 0;have d2:=hb2.cell 2;have e2:=hb2.frozen 2;have d2a:=λo=>(hb2.alloc o).cell 2;simp at d0 d2 d2a;have HB2:=AO hb2;clear hb2
 go_region_law (refine JV rfl _ _ rfl AKy rfl (HM1.out.Ap (((AZ.refl [] W2).drew).alloc _) AV) rfl (Own.lit W2.drew 3 1 #[.int .i64 ((n+k:Nat):Int)] 1 Aq rfl).rd (ACY _ _) Nb Aa ?_;intro A2 cc2 w3 hown2 PR KE _;have hb3:=((HB2.out.drew).alloc _).Ap PR (λhh=>HM1.out.Et HB2.out Aq g hh rfl);have x2:=hb3.cell 2;have y2:=hb3.frozen 2;simp at x2)
 all_goals
  go_wp2
  go_end0
  obtain⟨hn,hm,hs,hlx⟩:=HE.out;have hW:AZ [g] w3 (w3.setCell ⟨g,2,AB⟩ (.slice A2 (m+1) cc2)):=(AZ.refl [g] w3).setCell AV _;have hA3:=(HA1.out.Ap (((AZ.refl [] W2).drew).alloc (.cells #[.int .i64 ((n+k:Nat):Int)] 3)) AV).Ap PR (λj hj hh=>HA1.out.own_ne HM1.out Aq j hj hh);have sz:w.heap.size<=W2.heap.size:=HC.out.size;refine⟨g::(bo A1++bo A2),rfl,⟨A1,n+k,cc1,A2,m+1,cc2,s,by simpa using hb3.FH 2 (.slice A2 (m+1) cc2),?_,?_,rfl,?_,?_,hs⟩,?_,?_⟩;simpa[KJ] using hA3.Ap hW (λj hj hh=>hA3.Et hb3 Aq j hj (by simpa using hh))
  ·rw[AE9,<- hn];have:=hown2.Ap hW (λj hj hh=>hown2.Et hb3 Aq j hj (by simpa using hh));simp only[FK,BN,EG,hlx];exact this
  rw[Sv];omega;simp[hm]
  ·refine ((((HC.out.mono (L:=g::(bo A++bo M)) (λx hx=>.inl (by simp only[BF,Bj] at hx⊢;rcases hx with hx|hx<;>simp[hx]))).drew).alloc _).trans PR ?_).trans hW AV;intro x hx;left;simp[hx]
  intro j hj;simp only[BF,Bj] at hj⊢;rcases hj with rfl|hj|hj;simp
  ·rcases qC j hj with h1|h1;exact .inl (.inr (.inl h1));exact .inr h1.1
  rcases KE j hj with h1|h1;exact .inl (.inr (.inr h1));right;have:=h1.1;simp at this;omega
theorem AHs(g:Nat)(L:List Nat)(base:List Int)(ws:List (List Int))(w:AL)(h:Wj w g L base ws)(hlen:base.length+ws.flatten.length<=1073741824):
  Au Ae 82 #[.pointer (AA ⟨g,0,AB⟩)] w (AK0 w g L (base++ws.flatten) []):=by
 obtain⟨A,n,c,M,m,dm,s,hb,h1,h2,rfl,hn,hm,hs⟩:=h;(have n63:n<=1073741824:=by omega);have hmd:=h2.rd.2.1;have HE:=AO (show n=base.length+ws.flatten.length/\m=ws.length/\s=base.length from ⟨hn,hm,hs⟩);have HO:=AO h1;have HM:=AO h2;have HB:=AO hb;have c0:=hb.cell 0;have c1:=hb.cell 1;have c2:=hb.cell 2;have f1:=hb.frozen 1;have f2:=hb.frozen 2;simp at c0 c1 c2;clear h1 h2 hb hn hm hs;go_enter AOO,Tryz.ntmps82;go_wp2
 go_end0
 obtain⟨hn,hm,hs⟩:=HE.out;have hb2:=(HB.out.FH 1 (.int .i64 n)).FH 2 (.slice M 0 dm);have hch:AZ [g] w ((w.setCell ⟨g,1,AB⟩ (.int .i64 n)).setCell ⟨g,2,AB⟩ (.slice M 0 dm)):=((AZ.refl [g] w).setCell AV _).setCell AV _;refine⟨g::(bo A++bo M),rfl,⟨A,n,c,M,0,dm,n,by simpa using hb2,?_,?_,rfl,?_,rfl,?_⟩,hch.mono AV,λk hk=>.inl hk⟩;simpa using HO.out.Ap hch (λj hj hh=>HO.out.Et HB.out Aq j hj (by simpa using hh))
 ·have:=(HM.out.Ap hch (λj hj hh=>HM.out.Et HB.out Aq j hj (by simpa using hh))).cut (DW _);simp only[mr,List.take_zero] at this;exact this
 simpa using hn;rw[hn,IA]
theorem AHt(g:Nat)(L:List Nat)(base:List Int)(ws:List (List Int))(w:AL)(h:Wj w g L base ws)(hlen:base.length+ws.flatten.length<=1073741824)(N0:Nat)(hN0:(base++ws.flatten).length=N0):
  Au Ae 63 #[.pointer (AA ⟨g,0,AB⟩)] w (Lm 5 1 w (bv (base++ws.flatten)) N0):=by
 subst hN0;obtain⟨A,n,c,M,m,dm,s,hb,h1,h2,rfl,hn,hm,hs⟩:=h;(have n63:n<=1073741824:=by omega);have HE:=AO (show n=(base++ws.flatten).length by rw[IA];omega);have HO:=AO h1;have c0:=hb.cell 0;simp at c0;clear h1 h2 hb hn hm hs;have k78:= @AKf;go_enter AOF,Tryz.ntmps63;(go_wp2_with (go_at_call 78;refine (clone_any A n c _ _ n63 HO.out.rd).mono ?_;rintro e w1 ⟨A1,c1,rfl,hown,EI,hnew⟩));go_ret;rw[<- HE.out];exact⟨A1,c1,rfl,hown,EI,hnew⟩
theorem AHu(g:Nat)(L:List Nat)(base:List Int)(ws:List (List Int))(w:AL)(h:Wj w g L base ws)(hlen:base.length+ws.flatten.length<=1073741824)(N0:Nat)(hN0:base.length=N0):
  Au Ae 90 #[.pointer (AA ⟨g,0,AB⟩)] w (Lm 5 1 w (bv base) N0):=by
 subst hN0;obtain⟨A,n,c,M,m,dm,s,hb,h1,h2,rfl,hn,hm,hs⟩:=h;(have n63:n<=1073741824:=by omega);(have s63:s<=1073741824:=by omega);(have hsn:s<=n:=by omega);have hnc:=h1.rd.2.1
 have hcut:Rd w 1 A s c (bv base):=by
  have:=h1.rd.take hsn;rw[OI] at this;rw[show bv base=(bv (base++ws.flatten)).take s by rw[hs];simp];exact this
 have HC:=AO hcut;have HE:=AO (show s=base.length from hs);have c0:=hb.cell 0;have c1:=hb.cell 1;simp at c0 c1;(have q0:(0:Int)<=s:=by omega);(have q1:(s:Int)<=c:=by omega);clear h1 h2 hb hn hm hs hcut;have k78:= @AKf;go_enter AOV,Tryz.ntmps90;go_wp2
 go_still_tail 9,Az
 (go_wp2_with (go_at_call 78;refine (clone_any A s c _ _ s63 (HC.out.Ap ((AZ.refl [] w).drew) AV)).mono ?_;rintro e w1 ⟨A1,c1,rfl,hown,EI,hnew⟩));go_ret;rw[<- HE.out];exact⟨A1,c1,rfl,hown,((AZ.refl [] w).drew).Ah EI,hnew⟩
theorem size_any(g:Nat)(L:List Nat)(base:List Int)(ws:List (List Int))(w:AL)(h:Wj w g L base ws)(N0:Nat)(hN0:base.length+ws.flatten.length=N0):
  Au Ae 181 #[.pointer (AA ⟨g,0,AB⟩)] w (λe w'=>e=.returned (.int .i64 (N0:Nat))/\w'=w):=by
 subst hN0;obtain⟨A,n,c,M,m,dm,s,hb,h1,h2,rfl,hn,hm,hs⟩:=h;have HE:=AO hn;have c0:=hb.cell 0;simp at c0;clear h1 h2 hb hn hm hs;go_enter AKU,Tryz.ntmps181;go_wp2;go_ret;exact⟨by rw[<- HE.out];rfl,rfl⟩
def PS (out:List Int) (start:Nat):List (List Int)->List Bool->List Int
 | [],_=>out|x::r,ks=>PS (if ks.headD false then out++MJ (start - out.length) 0++x else out) (start+x.length) r ks.tail
theorem gY(out:List Int)(start:Nat)(ws:List (List Int))(x:List Int)(ks:List Bool):
  PS out start (ws++[x]) ks=if ks[ws.length]?.getD false then PS out start ws ks++MJ (start+ws.flatten.length - (PS out start ws ks).length) 0++x else PS out start ws ks:=by
 induction ws generalizing out start ks with
 |nil=>cases ks<;>simp[PS]|cons y r ih=>
  simp only[Dn,PS,ih]
  cases ks with|nil=>simp|cons k ks=>simp[SB]
theorem AM8(out:List Int)(start:Nat)(ws:List (List Int))(ks:List Bool)(h:out.length<=start):(PS out start ws ks).length<=start+ws.flatten.length:=by
 induction ws generalizing out start ks with
 |nil=>simpa[PS] using h|cons y r ih=>
  simp only[PS,Js,IA]
  have:(if ks.headD false then out++MJ (start - out.length) 0++y else out).length<=start+y.length:=by
   split;simp;omega;omega
  have:=ih _ _ ks.tail this;omega
theorem AM9(base:List Int)(ws:List (List Int))(i:Nat)(x:List Int)(h:ws[i]? =AA x):((base++ws.flatten).drop (base.length+(ws.take i).flatten.length)).take x.length=x:=by
 have hi:i<ws.length:=(CP.1 h).1
 have e:ws=ws.take i++x::ws.drop (i+1):=by
  conv=>lhs;rw[<- YF i ws,VN hi]
  rw[(CP.1 h).2]
 have e2:base++ws.flatten=(base++(ws.take i).flatten)++(x++(ws.drop (i+1)).flatten):=by
  conv=>lhs;rw[e]
  simp
 rw[e2,List.drop_left' AV,yR rfl]
abbrev kv (ks:List Bool):List AQ:=ks.map Value.bool
theorem ACZ{ks:List Bool}(h:Rd w 1 A n c (kv ks))(hj:j<n):
  ∃ad x,A=AA ad/\ks[j]? =AA x/\w.cell? (ad.add j)=AA (.bool x):=by
 obtain⟨ad,u,h1,h2,h3⟩:=h.Yu hj;rw[Ba] at h2
 cases hz:ks[j]? with|none=>rw[hz] at h2;cases h2|some x=>rw[hz] at h2;simp at h2;subst h2;exact⟨ad,x,h1,rfl,h3⟩
theorem AFA(g:Nat)(L:List Nat)(base:List Int)(ws:List (List Int))(K:Option Ag)(kn kc:Nat)(ks:List Bool)(w:AL)(h:Wj w g L base ws)(hlen:base.length+ws.flatten.length<=1073741824)
  (hwl:ws.length<=1073741824) (hkn:kn<=1073741824) (hkd:Rd w 1 K kn kc (kv ks)) (N0:Nat) (hN0:(PS base base.length ws ks).length=N0):
  Au Ae 57 #[.pointer (AA ⟨g,0,AB⟩),.slice K kn kc] w (Lm 5 1 w (bv (PS base base.length ws ks)) N0):=by
 subst hN0;have HS:=AO h;obtain⟨A,n,c,M,m,dm,s,hb,h1,h2,rfl,hn,hm,hs⟩:=h;(have n63:n<=1073741824:=by omega);(have m63:m<=1073741824:=by omega);(have hkl:ks.length=kn:=by have:=hkd.1;simp at this;omega);have HE:=AO (show n=base.length+ws.flatten.length/\m=ws.length/\s=base.length/\ks.length=kn from ⟨hn,hm,hs,hkl⟩);have HO:=AO h1;have HM:=AO h2;have HB:=AO hb;have HK:=AO hkd;have HL:=AO hlen;clear h1 h2 hb hn hm hs hkd hkl hlen hwl;have k90:= @ATs;go_enter AOB,Tryz.ntmps57;(go_wp2_with (go_at_call 90;refine (AHu g _ base ws _ HS.out HL.out base.length rfl).mono ?_;rintro e w1 ⟨A1,c1,rfl,hown,EI,hnew⟩;have hb1:=HB.out.Ap EI AV;have c0:=hb1.cell 0;have c1':=hb1.cell 1;have c2:=hb1.cell 2;simp at c0 c1' c2));obtain⟨hn,hm,hs,hkl⟩:=HE.out;have hown':Own w1 5 1 A1 base.length c1 (bv base):=hown;clear hown c0 c1' c2
 go_loopw [5,6,20] (λo f q wr=>∃(i F N':Nat) (A':Option Ag) (c':Nat),i<=m/\o=.slice A' N' c'/\f=.int .i64 F/\q=.int .i64 i/\F=base.length+(ws.take i).flatten.length/\N'=(PS base base.length (ws.take i) ks).length/\
  Own wr 5 1 A' N' c' (bv (PS base base.length (ws.take i) ks))/\AZ [] w wr/\(∀k∈bo A',w.heap.size<=k)) (λ_ _ q _=>m - (intOf q).toNat)
 case atStart=>exact⟨0,s,_,A1,c1,DW _,rfl,rfl,rfl,by simp[hs],by simp[PS],by simpa[PS] using hown',EI,hnew⟩
 obtain⟨i,F,N',A',c',hi,rfl,rfl,rfl,hF,hN,hown,EI,hnew⟩:=hrel;have HF:=AO hF;have HN:=AO hN;have HW:=AO hnew;have HG:=AO hkl;have HNM:=AO (show n=base.length+ws.flatten.length/\m=ws.length/\s=base.length from ⟨hn,hm,hs⟩);have hb1:=HB.out.Ap EI AV;have c0:=hb1.cell 0;simp at c0;by_cases hlt:i<m
 ·obtain⟨x,hx⟩: ∃x,ws[i]? =AA x:=⟨_,Bo Aa⟩;have hend:=AKz base.length ws i x hx;have hle:=AM8 base base.length (ws.take i) ks (Bd _);have hts:=take_snoc ws i x hx;have hfl:(ws.take (i+1)).flatten.length=(ws.take i).flatten.length+x.length:=by rw[hts,Sv]
  have htot:(ws.take (i+1)).flatten.length<=ws.flatten.length:=by
   conv=>rhs;rw[<- YF (i+1) ws,lM,IA]
   omega
  obtain⟨E,hE⟩: ∃E,E=base.length+(ws.take i).flatten.length+x.length:=⟨_,rfl⟩;rw[<- hE] at hend;obtain⟨ad,u,rfl,hu,hcu⟩:=qA ((HM.out.rd).Ap EI AV) hlt;rw[hend] at hu;simp at hu;subst hu;(have q1:F<=E:=by omega);(have q2:E<=n:=by have:=HL.out;omega);(have q3:N'<=F:=by omega);have q4:=HO.out.rd.2.1;obtain⟨S,hsl,hrs,hbs⟩:=ACS Rt (HO.out.rd) (show F<=E by omega) q2
  have AOz:Rd w 1 S (E - F) (c - F) (bv x):=by
   rw[OI,OI,show E - F=x.length by omega,hF,<- List.map_drop,<- Jg,AM9 base ws i x hx] at hrs;rw[show E - F=x.length by omega,hF];exact hrs
  have AO0:=AOz.Ap EI AV;have AO1:=HO.out.lt;(have hdis: ∀k∈bo S,k∉bo A':=λk hk hk'=>by have h1:=AO1 k (hbs k hk);have h2:=hnew k hk';omega);(have hga:g∉bo A':=λhh=>by have h1:=HB.out.lt;have h2:=hnew g hh;omega);have HRS:=AO AO0;have ACa:=AO hdis;have HGA:=AO hga;have gZ:=AO hbs;have HQ:=AO (show F=base.length+(ws.take i).flatten.length/\E=F+x.length from ⟨hF,Aa⟩);have HX:=AO hx;clear hrs AOz AO0 AO1 hdis hga hbs hF hN hnew hkl hn hm hs hx hend hle hts hfl htot hE;by_cases hki:i<kn
  ·obtain⟨kd,b,rfl,hkb,hck⟩:=ACZ (HK.out.Ap EI AV) hki;have HKB:=AO hkb;clear hkb
   cases b with
   |true=>
    have q5:F - N'<=1073741824:=by omega
    go_wp2_with (first
     |(at_builtin;refine dG rfl _ _ rfl Rt VU3 rfl rfl rfl hown (F - N') (by show Jq .i64 _=_;congr 1;omega) Nb Aa ?_;intro A2 c2 w2 hown2 PR KE;have hb2:=hb1.Ap PR HGA.out;have d0:=hb2.cell 0;simp at d0;rw[show N'+(F - N')=F by omega] at hown2)
     |(at_builtin;go_must (refine D8 rfl _ _ rfl Rt rfl hown2 rfl (HRS.out.Ap PR ACa.out) (AAM x) Nb Aa ?_);intro A3 c3 w3 hown3 ASJ ASL _))
    go_roundw
    case rel=>
     obtain⟨hF,hE⟩:=HQ.out
     have haft:PS base base.length (ws.take (i+1)) ks=PS base base.length (ws.take i) ks++MJ (F - N') 0++x:=by
      rw[take_snoc ws i x HX.out,gY,I7,Jf (Ti (CP.1 HX.out).1),HKB.out,HN.out,hF];rfl
     refine⟨i+1,E,E,A3,c3,Aa,by first|rfl|(congr 1;omega),rfl,by go_num,?_,?_,?_,?_,?_⟩;rw[take_snoc ws i x HX.out,Sv];omega;rw[haft];simp[<- HN.out];omega
     ·rw[haft];rw[show F+(E - F)=E by omega] at hown3;simpa[KJ] using hown3
     ·exact (EI.trans PR (λy hy=>.inr (HW.out y hy))).trans ASJ (λy hy=>by
       rcases KE y hy with h1|h1;exact .inr (HW.out y h1)
       right;have:=EI.size;omega)
     intro y hy;have:=EI.size;have h2:=PR.size;rcases ASL y hy with h1|h1
     ·rcases KE y h1 with h1|h1;exact HW.out y h1;omega
     omega
    simp[intOf];omega
   |false=>
    go_wp2;go_roundw
    case rel=>
     obtain⟨hF,hE⟩:=HQ.out
     have haft:PS base base.length (ws.take (i+1)) ks=PS base base.length (ws.take i) ks:=by
      rw[take_snoc ws i x HX.out,gY,I7,Jf (Ti (CP.1 HX.out).1),HKB.out];rfl
     exact⟨i+1,E,N',A',c',Aa,rfl,rfl,by go_num,by rw[take_snoc ws i x HX.out,Sv];omega,by rw[haft];exact HN.out,by rw[haft];exact hown,EI,HW.out⟩
    simp[intOf];omega
  have hkb:ks[i]? =AB:=H9 (by rw[HG.out];omega);have HKB:=AO hkb;clear hkb;go_wp2;go_roundw
  case rel=>
   obtain⟨hF,hE⟩:=HQ.out
   have haft:PS base base.length (ws.take (i+1)) ks=PS base base.length (ws.take i) ks:=by
    rw[take_snoc ws i x HX.out,gY,I7,Jf (Ti (CP.1 HX.out).1),HKB.out];rfl
   exact⟨i+1,E,N',A',c',Aa,rfl,rfl,by go_num,by rw[take_snoc ws i x HX.out,Sv];omega,by rw[haft];exact HN.out,by rw[haft];exact hown,EI,HW.out⟩
  simp[intOf];omega
 go_wp2;go_ret;have him:ws.take i=ws:=Ea Aa;have hown5:=hown;rw[him] at hown5;have hN5:=HN.out;rw[him] at hN5;rw[<- hN5];exact⟨A',c',rfl,hown5,EI,HW.out⟩
end
section
variable {a b:ByteArray}{c c' n:Nat}{A A':Option Ag}{w w':AL}
section
variable {κ α:Type} [DecidableEq κ]
def without (t:List (κ×α)) (k:κ):List (κ×α):=t.filter λp=>decide (p.1≠k)
theorem J6{t:List (κ×α)}{k:κ}(h:k∉t.map Ac):without t k=t:=by
 unfold without;rw[lN];intro p hp;simp only[decide_eq_true_eq];intro e;exact h (CG.2 ⟨p,hp,e⟩)
theorem Eb(p:κ×α)(t:List (κ×α))(k:κ):without (p::t) k=if p.1=k then without t k else p::without t k:=by
 unfold without;rw[XC];by_cases h:p.1=k<;>simp[h]
theorem Zo(p:κ×α)(t:List (κ×α))(k:κ):JA (p::t) k=if p.1=k then t else p::JA t k:=by
 unfold JA;rw[BN,RH];by_cases h:p.1=k;simp[h];(have hb:(p.1==k)=false:=by simp[h]);rw[BL h];simp only[hb];cases (t.map Ac).idxOf? k<;>simp
theorem Me{t:List (κ×α)}(hn:(t.map Ac).Nodup)(k:κ):JA t k=without t k:=by
 induction t with
 |nil=>rfl|cons p r ih=>
  rw[BN,IB] at hn;rw[Zo,Eb];by_cases h:p.1=k;rw[BU h,BU h,J6 (by rw[<- h];exact hn.1)];rw[BL h,BL h,ih hn.2]
theorem Vo(p:κ×α)(t:List (κ×α))(k:κ)(v:α):Dp (p::t) k v=if p.1=k then (k,v)::t else p::Dp t k v:=by
 unfold Dp;rw[BN,RH];by_cases h:p.1=k;simp[h];(have hb:(p.1==k)=false:=by simp[h]);rw[BL h];simp only[hb];cases (t.map Ac).idxOf? k<;>simp
theorem Vp{t:List (κ×α)}(hn:(t.map Ac).Nodup)(k:κ)(v:α):(Dp t k v).Perm ((k,v)::without t k):=by
 induction t with
 |nil=>exact OJ _|cons p r ih=>
  rw[BN,IB] at hn;rw[Vo,Eb];by_cases h:p.1=k;rw[BU h,BU h,J6 (by rw[<- h];exact hn.1)];rw[BL h,BL h];exact ((ih hn.2).cons p).trans (List.Perm.swap _ _ _)
end
def Jz (a b:ByteArray):Bool:=Op.bytesLess a.toList b.toList
theorem Sz:Jz a b=true↔a.data.toList<b.data.toList:=by
 unfold Jz;rw[Go.Proofs.bytesLess_eq,Yt,Yt];simp
theorem data_inj(h:a.data.toList=b.data.toList):a=b:=by
 cases a with|mk x=>cases b with|mk y=>
  (cases x;cases y);simp at h;subst h;rfl
theorem PT{c:ByteArray}(h:Jz a b=true)(k:Jz b c=true):Jz a c=true:=by
 rw[Sz] at*
 exact List.lt_trans h k
theorem LP(a:ByteArray):Jz a a=false:=by
 rw[<- fG,Sz];exact yS _
theorem lh(h:a≠b)(k:Jz a b=false):Jz b a=true:=by
 rw[<- fG,Sz] at k;rw[Sz];have h1:b.data.toList<=a.data.toList:=List.not_lt.1 k;rcases AFy.1 h1 with h2|h2;exact h2;exact Ak (data_inj h2).symm h
section
variable {α:Type}
def Di (k:ByteArray) (v:α):List (ByteArray×α)->List (ByteArray×α)
 | []=>[(k,v)]|p::r=>if Jz k p.1=true then (k,v)::p::r else p::Di k v r
theorem G8(k:ByteArray)(v:α): ∀t:List (ByteArray×α),(Di k v t).Perm ((k,v)::t)
 | []=>OJ _
 |p::r=>by
  rw[Di];split;exact OJ _;exact ((G8 k v r).cons p).trans (List.Perm.swap _ _ _)
def Oj (t:List (ByteArray×α)):Prop:=(t.map Ac).Pairwise λa b=>Jz a b=true
theorem Oj.nodup{t:List (ByteArray×α)}(h:Oj t):(t.map Ac).Nodup:=
 List.Pairwise.imp (λ{a b} hab e=>by subst e;rw[LP] at hab;cases hab) h
theorem Oj.without{t:List (ByteArray×α)}(h:Oj t)(k:ByteArray):Oj (without t k):=
 AMP ((List.filter_sublist).map Ac) h
theorem Oj.with_{t:List (ByteArray×α)}(h:Oj t){k:ByteArray}(v:α)(hk:k∉t.map Ac):Oj (Di k v t):=by
 induction t with
 |nil=>simp[Oj,Di]|cons p r ih=>
  have hp: ∀x∈r.map Ac,Jz p.1 x=true:=(Tj.1 h).1;have hr:Oj r:=(Tj.1 h).2;rw[Di];split
  ·rename_i hlt;refine Tj.2 ⟨λx hx=>?_,h⟩;rcases BF.1 hx with rfl|hx;exact hlt;exact PT hlt (hp x hx)
  rename_i hlt;rw[fG] at hlt;have hne:k≠p.1:=λe=>hk (by simp[e]);refine Tj.2 ⟨λx hx=>?_,ih hr (λhm=>hk (DD _ hm))⟩;have hx2:x∈((k,v)::r).map Ac:=((G8 k v r).map Ac).mem_iff.1 hx;rcases BF.1 hx2 with rfl|hx2;exact lh hne hlt;exact hp x hx2
end
structure Iz where
 nm:ByteArray
 A:Option Ag
 n:Nat
 c:Nat
def Iz.cells (x:Iz):List AQ:=[.string x.nm,.slice x.A x.n x.c]
def Hl (xs:List Iz):List AQ:=xs.flatMap Iz.cells
theorem jd(xs:List Iz):(Hl xs).length=xs.length*2:=by
 induction xs with|nil=>rfl|cons x r ih=>simp only[Hl,VP,IA,EY] at ih⊢;rw[ih];simp[Iz.cells];omega
theorem N9(a b:List Iz):Hl (a++b)=Hl a++Hl b:=by simp[Hl]
theorem QZ(xs:List Iz)(j k:Nat)(hk:k<2):(Hl xs)[j*2+k]? =(xs[j]?).bind λx=>x.cells[k]? :=by
 induction xs generalizing j with
 |nil=>simp[Hl]|cons x r ih=>
  simp only[Hl,VP]
  cases j with
  |zero=>
   rw[O6 (by simp[Iz.cells];omega)];simp
  |succ j=>
   rw[Ig (by simp[Iz.cells];omega)];(have:(j+1)*2+k - x.cells.length=j*2+k:=by simp[Iz.cells];omega);rw[this];simpa[Hl] using ih j
theorem U9(xs:List Iz): ∀u∈Hl xs,u.oneCell'=true:=by
 intro u hu;obtain⟨x,_,h⟩:=GG.1 hu;simp only[Iz.cells,BF,yT,or_false] at h;rcases h with rfl|rfl<;>rfl
theorem ACb(xs:List Iz)(j k:Nat)(hk:k<2)(x x':Iz)(v:AQ)(hj:xs[j]? =AA x)(h:x'.cells=x.cells.set k v):(Hl xs).set (j*2+k) v=Hl (xs.set j x'):=by
 induction xs generalizing j with
 |nil=>simp at hj|cons y r ih=>
  simp only[Hl,VP]
  cases j with
  |zero=>
   simp at hj;subst hj;rw[List.set_append_left _ _ (by simp[Iz.cells];omega)];simp[h]
  |succ j=>
   rw[List.set_append_right _ _ (by simp[Iz.cells];omega)];(have:(j+1)*2+k - y.cells.length=j*2+k:=by simp[Iz.cells];omega);rw[this];have:=ih j (by simpa using hj);simp only[Hl] at this;simp[this]
structure AGd (w:AL) (p:Ag) (x:Iz):Prop where
 c0:w.cell? p=AA (.string x.nm)
 c1:w.cell? ⟨p.block,p.off+1,AB⟩=AA (.slice x.A x.n x.c)
theorem AGd.Ap{p:Ag}{x:Iz}{L:List Nat}(h:AGd w p x)(hc:AZ L w w')(hn:p.block∉L):AGd w' p x:=⟨hc.cell h.c0 hn,hc.cell h.c1 hn⟩
theorem Rd.KF{xs:List Iz}(h:Rd w 2 A n c (Hl xs)):xs.length=n:=by have:=h.1;rw[jd] at this;omega
theorem Rd.ns{xs:List Iz}(h:Rd w 2 A n c (Hl xs)){j:Nat}{x:Iz}(hj:xs[j]? =AA x): ∃ad,A=AA ad/\AGd w (ad.add (j*2)) x:=by
 have hl:=h.KF;(have hjn:j<n:=by have:=(CP.1 hj).1;omega);obtain⟨ad,rfl,_⟩:=h.some_ Aa;refine⟨ad,rfl,?_⟩;have hc: ∀k,k<2->∀u,x.cells[k]? =AA u->w.cell? (ad.add (j*2+k))=AA u:=λk hk u hu=>(h.2.2.2.2 ad rfl).2 _ u (by rw[QZ _ _ _ hk,hj];exact hu);refine⟨hc 0 Aq _ rfl,?_⟩;have:=hc 1 Aq _ rfl;rw[pq] at this;exact this
abbrev FM:=Iz×List Int
abbrev DM:=Iz×List FM
abbrev Eg:=List (ByteArray×List (ByteArray×List Int))
def Dq (fs:List FM):List Iz:=fs.map (·.1)
def D9 (ds:List DM):List Iz:=ds.map (·.1)
def Ai (fs:List FM):List (ByteArray×List Int):=fs.map λf=>(f.1.nm,f.2)
def BD (ds:List DM):Eg:=ds.map λd=>(d.1.nm,Ai d.2)
def Ep (fs:List FM):List Nat:=fs.flatMap λf=>bo f.1.A
def Ol (ds:List DM):List Nat:=ds.flatMap λd=>bo d.1.A++Ep d.2
structure EU (w:AL) (A:Option Ag) (n c:Nat) (fs:List FM):Prop where
 row:Rd w 2 A n c (Hl (Dq fs))
 dat: ∀f∈fs,Rd w 1 f.1.A f.1.n f.1.c (bv f.2)
structure F6 (w:AL) (A:Option Ag) (n c:Nat) (ds:List DM):Prop where
 row:Rd w 2 A n c (Hl (D9 ds))
 ET: ∀d∈ds,EU w d.1.A d.1.n d.1.c d.2
theorem EU.Ap{w w':AL}{A:Option Ag}{n c:Nat}{fs:List FM}{L:List Nat}(h:EU w A n c fs)(hc:AZ L w w')(hn: ∀k∈bo A++Ep fs,k∉L):EU w' A n c fs:=
 ⟨h.row.Ap hc (λk hk=>hn k (F5 _ hk)),λf hf=>(h.dat f hf).Ap hc (λk hk=>hn k (GN _ (GG.2 ⟨f,hf,hk⟩)))⟩
theorem F6.Ap{w w':AL}{A:Option Ag}{n c:Nat}{ds:List DM}{L:List Nat}(h:F6 w A n c ds)(hc:AZ L w w')(hn: ∀k∈bo A++Ol ds,k∉L):F6 w' A n c ds:=
 ⟨h.row.Ap hc (λk hk=>hn k (F5 _ hk)),λd hd=>(h.ET d hd).Ap hc (λk hk=>hn k (GN _ (GG.2 ⟨d,hd,hk⟩)))⟩
theorem F6.Es{ds:List DM}(h:F6 w A n c ds)(hc:AZ [] w w'):F6 w' A n c ds:=h.Ap hc GM
theorem EU.Es{fs:List FM}(h:EU w A n c fs)(hc:AZ [] w w'):EU w' A n c fs:=h.Ap hc GM
structure GU (w:AL) (A:Option Ag) (n c:Nat) (fs:List FM):Prop where
 row:Own w 64 2 A n c (Hl (Dq fs))
 dat: ∀f∈fs,Own w 5 1 f.1.A f.1.n f.1.c (bv f.2)
 sep:(Ep fs).Nodup
structure Jl (w:AL) (A:Option Ag) (n c:Nat) (ds:List DM):Prop where
 row:Own w 77 2 A n c (Hl (D9 ds))
 ET: ∀d∈ds,GU w d.1.A d.1.n d.1.c d.2
 sep:(Ol ds).Nodup
theorem GU.rd{w:AL}{A:Option Ag}{n c:Nat}{fs:List FM}(h:GU w A n c fs):EU w A n c fs:=⟨h.row.rd,λf hf=>(h.dat f hf).rd⟩
theorem Jl.rd{w:AL}{A:Option Ag}{n c:Nat}{ds:List DM}(h:Jl w A n c ds):F6 w A n c ds:=⟨h.row.rd,λd hd=>(h.ET d hd).rd⟩
theorem GU.Ap{w w':AL}{A:Option Ag}{n c:Nat}{fs:List FM}{L:List Nat}(h:GU w A n c fs)(hc:AZ L w w')(hn: ∀k∈bo A++Ep fs,k∉L):GU w' A n c fs:=
 ⟨h.row.Ap hc (λk hk=>hn k (F5 _ hk)),λf hf=>(h.dat f hf).Ap hc (λk hk=>hn k (GN _ (GG.2 ⟨f,hf,hk⟩))),h.sep⟩
theorem Jl.Ap{w w':AL}{A:Option Ag}{n c:Nat}{ds:List DM}{L:List Nat}(h:Jl w A n c ds)(hc:AZ L w w')(hn: ∀k∈bo A++Ol ds,k∉L):Jl w' A n c ds:=
 ⟨h.row.Ap hc (λk hk=>hn k (F5 _ hk)),λd hd=>(h.ET d hd).Ap hc (λk hk=>hn k (GN _ (GG.2 ⟨d,hd,hk⟩))),h.sep⟩
theorem GU.lt{w:AL}{A:Option Ag}{n c:Nat}{fs:List FM}(h:GU w A n c fs): ∀k∈bo A++Ep fs,k<w.heap.size:=by
 intro k hk;rcases Bj.1 hk with hk|hk;exact h.row.lt k hk;obtain⟨f,hf,hk⟩:=GG.1 hk;exact (h.dat f hf).lt k hk
theorem Jl.lt{w:AL}{A:Option Ag}{n c:Nat}{ds:List DM}(h:Jl w A n c ds): ∀k∈bo A++Ol ds,k<w.heap.size:=by
 intro k hk;rcases Bj.1 hk with hk|hk;exact h.row.lt k hk;obtain⟨d,hd,hk⟩:=GG.1 hk;exact (h.ET d hd).lt k hk
theorem wo:Ety Ae 25 64 2 40 (.agg #[.string Ku,.slice AB 0 0]):=.mk' AT3 Az rfl Aq
theorem Qa:Ety Ae 22 77 2 40 (.agg #[.string Ku,.slice AB 0 0]):=.mk' AT2 Az rfl Aq
theorem gm(A:Option Ag):(bo A).Nodup:=by cases A<;>simp
theorem GU.snoc{fs:List FM}(h:GU w A n c fs){x:FM}(hc:AZ (bo A) w w')(hr:Own w' 64 2 A' (n+1) c' (Hl (Dq (fs++[x]))))(hx:Own w' 5 1 x.1.A x.1.n x.1.c (bv x.2))(hd: ∀k∈bo x.1.A,k∉Ep fs):GU w' A' (n+1) c' (fs++[x]):=by
 refine⟨hr,λf hf=>?_,?_⟩
 ·rcases Bj.1 hf with hf|hf;exact (h.dat f hf).Ap hc ((h.dat f hf).own_ne h.row Aq);simp only[CB] at hf;subst hf;exact hx
 unfold Ep;rw[AFz];refine OH.2 ⟨h.sep,by simpa using gm x.1.A,λa ha b hb=>?_⟩;simp only[VP,List.flatMap_nil,Ii] at hb;rintro rfl;exact hd a hb ha
theorem qE(fs:List FM)(x:FM):Ep (fs++[x])=Ep fs++bo x.1.A:=by simp[Ep]
theorem Zp(ds:List DM)(x:DM):Ol (ds++[x])=Ol ds++(bo x.1.A++Ep x.2):=by simp[Ol]
theorem GU.nodup{fs:List FM}(h:GU w A n c fs):(bo A++Ep fs).Nodup:=by
 refine OH.2 ⟨gm A,h.sep,λa ha b hb=>?_⟩;obtain⟨f,hf,hb⟩:=GG.1 hb;rintro rfl;exact (h.dat f hf).own_ne h.row Aq a hb ha
theorem Jl.ANA{ds:List DM}(h:Jl w A n c ds): ∀k∈Ol ds,k∉bo A:=by
 intro k hk;obtain⟨d,hd,hk⟩:=GG.1 hk;rcases Bj.1 hk with hk|hk;exact (h.ET d hd).row.own_ne h.row Aq k hk;obtain⟨f,hf,hk⟩:=GG.1 hk;exact ((h.ET d hd).dat f hf).own_ne h.row Aq k hk
theorem Jl.snoc{ds:List DM}(h:Jl w A n c ds){x:DM}(hc:AZ (bo A) w w')(hr:Own w' 77 2 A' (n+1) c' (Hl (D9 (ds++[x]))))(hx:GU w' x.1.A x.1.n x.1.c x.2)(hd: ∀k∈bo x.1.A++Ep x.2,k∉Ol ds):Jl w' A' (n+1) c' (ds++[x]):=by
 refine⟨hr,λd hd=>?_,?_⟩
 ·rcases Bj.1 hd with hd|hd;exact (h.ET d hd).Ap hc (λk hk=>h.ANA k (GG.2 ⟨d,hd,hk⟩));simp only[CB] at hd;subst hd;exact hx
 rw[Zp];exact OH.2 ⟨h.sep,hx.nodup,λa ha b hb=>by rintro rfl;exact hd a hb ha⟩
def dH (w:AL) (D:Eg) (e:Fe) (w':AL):Prop:=
 ∃A n c ds,e=.returned (.slice A n c)/\Jl w' A n c ds/\BD ds=D/\AZ [] w w'/\∀k∈bo A++Ol ds,w.heap.size<=k
end
open Go
section
variable {a a':Act}{fuel:Nat}{oi:BX}{v:AQ}{w:AL}{C:AL->Prop}
section
variable {P:BM} {ops:Array BX} {Q:Exit->Act->AL->Prop} {md:Region.Mode} {S:AL->Prop}
theorem tk(i:Nat){listed:Array Bool}(h:wpAnyH P md ops Q S fuel (listed.setIfInBounds i true) a' w)(hi:ops[i]? =some oi:=by exact rfl)
  (hs:Region.noSelect ops=true:=by kernel_rfl) (hf:Region.free md ops listed i=true:=by kernel_rfl) (hr:(Region.ready md ops listed).contains i=true:=by kernel_rfl)
  (hy:YieldsIf P ops S oi v a:=by first|exact Or.inl ⟨by rfl,by intro w' hSw;go_simp;try with_reducible rfl⟩|exact Or.inr ⟨by rfl,rfl⟩) (ha:a.put oi.dst v=a':=by simp only[Act.put,Bg];first|done|rfl)
  (hQ: ∀c a w,Q (.panic c) (a.put oi.dst v) w->Q (.panic c) a w:=by first|exact λ_ _ _ h=>h|exact λ_ _ _ h=>AK1.out _ _ _ _ _ Aq h) (hS:S w:=by assumption):wpAnyH P md ops Q S (fuel+1) listed a w:=
 wpAnyH_take hi hs hf hr hQ hy hS (by rw[ha];exact h)
theorem F9(i:Nat)(q: ∀w,S w->C w){listed:Array Bool}(h:wpAnyH P md ops Q S fuel (listed.setIfInBounds i true) a' w)(hi:ops[i]? =some oi:=by exact rfl)
  (hs:Region.noSelect ops=true:=by kernel_rfl) (hf:Region.free md ops listed i=true:=by kernel_rfl) (hr:(Region.ready md ops listed).contains i=true:=by kernel_rfl)
  (hw:Region.wanted oi (yielded ops a.tmps)=true:=by rfl)
  (hy: ∀w,S w->C w->(execOp a.eval oi).run P w=.ok (.value v) w:=by intro w' hSw q;go_simp;try with_reducible rfl) (ha:a.put oi.dst v=a':=by simp only[Act.put,Bg];first|done|rfl)
  (hQ: ∀c a w,Q (.panic c) (a.put oi.dst v) w->Q (.panic c) a w:=by first|exact λ_ _ _ h=>h|exact λ_ _ _ h=>AK1.out _ _ _ _ _ Aq h) (hS:S w:=by assumption):wpAnyH P md ops Q S (fuel+1) listed a w:=
 wpAnyH_take hi hs hf hr hQ (Or.inl ⟨hw,λw hw'=>hy w hw' (q w hw')⟩) hS (by rw[ha];exact h)
theorem AO2(i:Nat){D:World->Prop}(q: ∀w,S w->C w/\D w){listed:Array Bool}(h:wpAnyH P md ops Q S fuel (listed.setIfInBounds i true) a' w)(hi:ops[i]? =some oi:=by exact rfl)
  (hs:Region.noSelect ops=true:=by kernel_rfl) (hf:Region.free md ops listed i=true:=by kernel_rfl) (hr:(Region.ready md ops listed).contains i=true:=by kernel_rfl)
  (hw:Region.wanted oi (yielded ops a.tmps)=true:=by rfl)
  (hy: ∀w,S w->C w->D w->(execOp a.eval oi).run P w=.ok (.value v) w:=by intro w' hSw q q2;go_simp;try with_reducible rfl) (ha:a.put oi.dst v=a':=by simp only[Act.put,Bg];first|done|rfl)
  (hQ: ∀c a w,Q (.panic c) (a.put oi.dst v) w->Q (.panic c) a w:=by first|exact λ_ _ _ h=>h|exact λ_ _ _ h=>AK1.out _ _ _ _ _ Aq h) (hS:S w:=by assumption):wpAnyH P md ops Q S (fuel+1) listed a w:=
 wpAnyH_take hi hs hf hr hQ (Or.inl ⟨hw,λw hw'=>hy w hw' (q w hw').1 (q w hw').2⟩) hS (by rw[ha];exact h)
theorem EM(i:Nat){o:Oper}{listed:Array Bool}
  (h: ∀K':Act->World->Prop,Shut (∀a w,S w->(S w->wpAnyH P md ops Q S fuel (listed.setIfInBounds i true) a w)->K' a w)->if Region.wanted o (yielded ops a.tmps)=true then Oper.wp P o a w K' Q else K' (a.put o.dst undef) w)
  (ho:ops[i]? =some o:=by exact rfl) (hr:Region.ready md ops listed=[i]:=by kernel_rfl):wpAnyH P md ops Q S (fuel+1) listed a w:=
 wpAnyH_ready hr AV (AllReadyH.cons ho h AllReadyH.nil)
end
end
section
variable {c i:Nat}{u:UInt8}
def kX (c:Int):Bool:=decide (97<=c/\c<=122) || decide (48<=c/\c<=57) || c==46 || c==95 || c==45
def CO (s:ByteArray):Bool:=decide (0<s.size/\s.size<=30) && s.data.toList.all λb=>kX (b.toNat:Int)
theorem qF{s:ByteArray}(h:s.data.toList[i]? =AA u)(hb:kX (u.toNat:Int)=false):CO s=false:=by
 unfold CO;rw[AMQ];right;rw[List.all_eq_false];exact⟨u,Bi h,by simp[hb]⟩
theorem wu{l:List UInt8}(h: ∀x∈l.take i,kX (x.toNat:Int)=true)(hu:l[i]? =AA u)(ho:kX (u.toNat:Int)=true): ∀x∈l.take (i+1),kX (x.toNat:Int)=true:=by
 intro x hx;rw[Py,hu] at hx;rcases Bj.1 hx with h1|h1;exact h x h1;simp at h1;subst h1;exact ho
theorem Ru(s:ByteArray)(w:AL):Au Ae 36 #[.string s] w λe w'=>e=.returned (.bool (CO s))/\w'=w:=by
 by_cases h0:s.size=0
 ·have hs:s=Ku:=by
   cases s with|mk d=>simp[ByteArray.size] at h0;subst h0;rfl
  subst hs;go_enter AGa,Tryz.ntmps36;go_wp2;go_ret;exact⟨rfl,rfl⟩
 have e1:s.toList.isEmpty=false:=by
  rw[Yt,<- fG,List.isEmpty_iff];intro h;apply h0;(have q:s.data.toList.length=0:=by rw[h];rfl);simpa using q
 by_cases h30:30<s.size
 ·(have e2:decide ((30:Int)<(s.size:Int))=true:=by simp;omega);have HR:Hid (CO s=false):=AO (by unfold CO;simp;omega);go_enter AGa,Tryz.ntmps36;go_wp2;go_ret;exact⟨by rw[HR.out];rfl,rfl⟩
 (have e2:decide ((30:Int)<(s.size:Int))=false:=by simp;omega);go_enter AGa,Tryz.ntmps36;go_wp2;go_loopw [14] (λq wr=>∃i:Nat,i<=s.size/\q=.int .i64 i/\(∀x∈s.data.toList.take i,kX (x.toNat:Int)=true)/\wr=w) (λq _=>s.size - (intOf q).toNat)
 case atStart=>exact⟨0,DW _,rfl,AV,rfl⟩
 obtain⟨i,hi,rfl,hall,rfl⟩:=hrel;have LQ:=AO hall;clear hall;by_cases hlt:i<s.size
 ·(have hlt':(i:Int)<(s.size:Int):=by omega);have HX:Hid (s.data.toList[i]? =AA (s[i]'hlt)):=AO (by rw[Bo (by simpa using hlt)];rfl);have hub:(s[i]'hlt).toNat<256:=(s[i]'hlt).toNat_lt;rcases (show (97<=(s[i]'hlt).toNat/\(s[i]'hlt).toNat<=122)\/(48<=(s[i]'hlt).toNat/\(s[i]'hlt).toNat<=57)\/(s[i]'hlt).toNat=46\/(s[i]'hlt).toNat=95\/(s[i]'hlt).toNat=45\/((s[i]'hlt).toNat<48/\(s[i]'hlt).toNat≠46/\(s[i]'hlt).toNat≠45)\/(57<(s[i]'hlt).toNat/\(s[i]'hlt).toNat<97/\(s[i]'hlt).toNat≠95)\/(122<(s[i]'hlt).toNat) by omega) with hq|hq|hq|hq|hq|hq|hq|hq
  all_goals
   (first|have e0:decide (((s[i]'hlt).toNat:Int)<97)=true:=by simp;omega|have e0:decide (((s[i]'hlt).toNat:Int)<97)=false:=by simp;omega);(first|have e1:decide (122<((s[i]'hlt).toNat:Int))=true:=by simp;omega|have e1:decide (122<((s[i]'hlt).toNat:Int))=false:=by simp;omega);(first|have e2:decide (((s[i]'hlt).toNat:Int)<48)=true:=by simp;omega|have e2:decide (((s[i]'hlt).toNat:Int)<48)=false:=by simp;omega);(first|have e3:decide (57<((s[i]'hlt).toNat:Int))=true:=by simp;omega|have e3:decide (57<((s[i]'hlt).toNat:Int))=false:=by simp;omega);(first|have e4:(((s[i]'hlt).toNat:Int) !=46)=true:=by simp;omega|have e4:(((s[i]'hlt).toNat:Int) !=46)=false:=by simp;omega);(first|have e5:(((s[i]'hlt).toNat:Int) !=95)=true:=by simp;omega|have e5:(((s[i]'hlt).toNat:Int) !=95)=false:=by simp;omega);(first|have e6:(((s[i]'hlt).toNat:Int) !=45)=true:=by simp;omega|have e6:(((s[i]'hlt).toNat:Int) !=45)=false:=by simp;omega);first
   |have HO:Hid (kX ((s[i]'hlt).toNat:Int)=true):=AO (by unfold kX;simp;omega)
    go_wp2;go_roundw
    case rel=>exact⟨i+1,Aa,by go_num,wu LQ.out HX.out HO.out,Ar⟩
    simp[intOf];omega
   |have HR:Hid (CO s=false):=AO (qF HX.out (by unfold kX;simp;omega))
    go_wp2;go_ret;exact⟨by rw[HR.out];rfl,rfl⟩
 obtain rfl:i=s.size:=by omega
 have HR:Hid (CO s=true):=AO (by
  unfold CO;rw[DV];refine⟨by simp;omega,JD.2 (λx hx=>LQ.out x ?_)⟩;rw[Ea AV]
  exact hx)
 go_wp2;go_ret;exact⟨by rw[HR.out];rfl,rfl⟩
def qG:ByteArray:=⟨#[97,98,99,100,101,102,103,104,105,106,107,108,109,110,111,112,113,114,115,116,117,118,119,120,121,122,48,49,50,51,52,53,54,55,56,57,46,95,45]⟩
def je (k:Nat) (c:Nat):Bool:=(qG.data.toList.take k).any λb=>b.toNat==c
theorem AHv:((Fp 256).all λn=>je 39 n==kX (n:Int))=true:=by kernel_rfl
theorem AHw(h:c<256):je 39 c=kX (c:Int):=by
 have q:=JD.1 AHv c (XA.2 h);exact eq_of_beq q
theorem AFB{k:Nat}(h:k<39):je (k+1) c=(je k c || (qG[k]'h).toNat==c):=by
 unfold je;rw[Py,show qG.data.toList[k]? =AA (qG[k]'h) from by rw[Bo (show k<qG.data.toList.length from h)];rfl];simp[List.any_append]
theorem Vq(s:ByteArray)(w:AL):Au Ae 10 #[.string s] w λe w'=>e=.returned (.bool (CO s))/\AZ [] w w':=by
 by_cases h0:s.size=0
 ·(have e1:((s.size:Int)==0)=true:=by simp[h0]);have HR:Hid (CO s=false):=AO (by unfold CO;simp[h0]);go_enter AGZ,Tryz.ntmps10;go_wp2;go_ret;exact⟨by rw[HR.out];rfl,AZ.refl _ _⟩
 (have e1:((s.size:Int)==0)=false:=by rw[beq_eq_false_iff_ne];omega);by_cases h30:30<s.size
 ·(have e2:decide ((30:Int)<(s.size:Int))=true:=by simp;omega);have HR:Hid (CO s=false):=AO (by unfold CO;simp;omega);go_enter AGZ,Tryz.ntmps10;go_wp2;go_ret;exact⟨by rw[HR.out];rfl,AZ.refl _ _⟩
 (have e2:decide ((30:Int)<(s.size:Int))=false:=by simp;omega);go_enter AGZ,Tryz.ntmps10;go_wp2;go_loopw [3] (λq wr=>∃i:Nat,i<=s.size/\q=.int .i64 i/\(∀x∈s.data.toList.take i,kX (x.toNat:Int)=true)/\AZ [] w wr) (λq _=>s.size - (intOf q).toNat)
 case atStart=>exact⟨0,DW _,rfl,AV,AZ.refl _ _⟩
 obtain⟨i,hi,rfl,hall,hch⟩:=hrel;have LQ:=AO hall;have DJ:=AO hch;clear hall hch;by_cases hlt:i<s.size
 ·(have hlt':(i:Int)<(s.size:Int):=by omega);have HX:Hid (s.data.toList[i]? =AA (s[i]'hlt)):=AO (by rw[Bo (by simpa using hlt)];rfl);have hub:(s[i]'hlt).toNat<256:=(s[i]'hlt).toNat_lt;go_wp2;obtain⟨wk,hwk⟩: ∃wk:AL,wk=wr:=⟨_,rfl⟩;subst hwk;go_loopw [5,4] (λq b wr=>∃k:Nat,k<=39/\q=.int .i64 k/\b=.bool (je k (s[i]'hlt).toNat)/\AZ [] wk wr) (λq _ _=>39 - (intOf q).toNat)
  case atStart=>exact⟨0,Aa,rfl,rfl,AZ.refl _ _⟩
  obtain⟨k,hk,rfl,rfl,hcr⟩:=hrel;have Wl:=AO hcr;clear hcr;by_cases AUC:k<39
  ·(have AVL:(k:Int)<39:=by omega);have HS:=AO (AFB (c:=(s[i]'hlt).toNat) AUC)
   cases hb:je k (s[i]'hlt).toNat with
   |true=>
    rw[hb] at HS;clear hb;(go_wp2_with fail);go_quiet (fail);go_wp2;go_roundw
    case rel=>exact⟨k+1,Aa,by go_num,by rw[HS.out];rfl,Wl.out.drewN _⟩
    simp[intOf];omega
   |false=>
    rw[hb] at HS;clear hb;(go_wp2_with fail);go_quiet (fail);go_wp2;go_roundw
    case rel=>
     refine⟨k+1,Aa,by go_num,?_,Wl.out.drewN _⟩;rw[HS.out,Bool.false_or];exact congrArg Value.bool (by rw[mi];simp;exact⟨λh=>by exact_mod_cast h,λh=>by exact_mod_cast h⟩)
    simp[intOf];omega
  (obtain rfl:k=39:=by omega);have HK:=AO (AHw hub)
  cases hb:je 39 (s[i]'hlt).toNat with
  |true=>
   rw[hb] at HK;clear hb;go_wp2;go_roundw
   case rel=>exact⟨i+1,Aa,by go_num,wu LQ.out HX.out HK.out.symm,DJ.out.Ah Wl.out⟩
   simp[intOf];omega
  |false=>
   rw[hb] at HK;clear hb;have HR:Hid (CO s=false):=AO (qF HX.out HK.out.symm);go_wp2;go_ret;exact⟨by rw[HR.out];rfl,DJ.out.Ah Wl.out⟩
 obtain rfl:i=s.size:=by omega
 have HR:Hid (CO s=true):=AO (by
  unfold CO;rw[DV];refine⟨by simp;omega,JD.2 (λx hx=>LQ.out x ?_)⟩;rw[Ea AV]
  exact hx)
 go_wp2;go_ret;exact⟨by rw[HR.out];rfl,DJ.out⟩
end
end Go.Proofs.YtkkgcebhfghdnaaGreatDoor.Vw
namespace Go.Proofs.YtkkgcebhfghdnaaGreatDoor
open Go
open Go.Shelf
def Aj.jf:Go.Shelf.Ren:=⟨fun|7=>88|10=>124|n=>n,fun|23=>112|26=>9|3=>130|28=>179|0=>0|27=>178|33=>37|4=>4|n=>n,fun|n=>n⟩
theorem Aj.AGe:Go.Proofs.SlLaysZ.n7 Ae Aj.jf:={
 mixed:=by kernel_rfl
 f7:=⟨Tryz.f88.name,Aq,AOT.trans (congrArg AA Az)⟩
 f10:=⟨Tryz.f124.name,Aq,AKL.trans (congrArg AA Az)⟩
 t0:=VU0
 a0:=VI0
 z0:=VS0
 v0:=VZ0
 t4:=VU4
 a4:=VI4
 z4:=VS4
 v4:=VZ4
 t23:=Iy
 a23:=ARW
 z23:=ARX
 v23:=ARY
 t26:=Kv
 a26:=VI9
 z26:=VS9
 v26:=VZ9
 t27:=AKq
 a27:=AKr
 z27:=AKs
 v27:=AKt
 t28:=AE4
 a28:=AE5
 z28:=AE6
 v28:=AE7
 t33:=AOu
 a33:=AOv
 z33:=AOw
 v33:=AOx}
def Aj.jg:Go.Shelf.Ren:=⟨fun|7=>89|10=>125|n=>n,fun|23=>130|26=>9|3=>121|28=>179|0=>0|27=>178|33=>37|4=>4|n=>n,fun|n=>n⟩
theorem Aj.AGf:Go.Proofs.SlLaysZ.n7 Ae Aj.jg:={
 mixed:=by kernel_rfl
 f7:=⟨Tryz.f89.name,Aq,AOU.trans (congrArg AA Az)⟩
 f10:=⟨Tryz.f125.name,Aq,AKM.trans (congrArg AA Az)⟩
 t0:=VU0
 a0:=VI0
 z0:=VS0
 v0:=VZ0
 t4:=VU4
 a4:=VI4
 z4:=VS4
 v4:=VZ4
 t23:=PO
 a23:=AKm
 z23:=AKn
 v23:=AKo
 t26:=Kv
 a26:=VI9
 z26:=VS9
 v26:=VZ9
 t27:=AKq
 a27:=AKr
 z27:=AKs
 v27:=AKt
 t28:=AE4
 a28:=AE5
 z28:=AE6
 v28:=AE7
 t33:=AOu
 a33:=AOv
 z33:=AOw
 v33:=AOx}
def Aj.sortedA_ren:Go.Shelf.Ren:=⟨fun|6=>87|8=>122|9=>123|11=>136|13=>138|12=>137|23=>148|24=>149|14=>139|15=>140|16=>141|17=>142|18=>143|19=>144|20=>145|21=>146|22=>147|25=>150|26=>151|27=>152|28=>153|29=>154|30=>155|31=>156|n=>n,fun|26=>9|28=>179|24=>69|0=>0|3=>3|37=>214|48=>166|50=>163|4=>4|40=>243|39=>242|45=>248|5=>5|9=>9|51=>252|55=>255|57=>257|58=>258|33=>37|n=>n,fun|n=>n⟩
theorem Aj.sortedA:Go.Proofs.SlLaysZ.n6 Ae Aj.sortedA_ren:={
 mixed:=by kernel_rfl
 f6:=⟨Tryz.f87.name,Aq,AOS.trans (congrArg AA Az)⟩
 f8:=⟨Tryz.f122.name,Aq,AQo.trans (congrArg AA Az)⟩
 f11:=⟨Tryz.f136.name,Aq,AQp.trans (congrArg AA Az)⟩
 t0:=VU0
 a0:=VI0
 z0:=VS0
 v0:=VZ0
 t24:=AGc
 a24:=AKi
 z24:=AKj
 v24:=AKk
 t26:=Kv
 a26:=VI9
 z26:=VS9
 v26:=VZ9
 t28:=AE4
 a28:=AE5
 z28:=AE6
 v28:=AE7
 i26:=by kernel_rfl}
def Aj.AFC:Go.Shelf.Ren:=⟨fun|6=>123|8=>138|9=>137|19=>148|20=>149|21=>139|22=>140|23=>141|24=>142|25=>143|26=>144|27=>145|28=>146|29=>147|36=>150|31=>151|32=>152|37=>153|38=>154|39=>155|41=>156|n=>n,fun|27=>69|29=>9|3=>3|32=>214|26=>69|0=>0|44=>166|46=>163|4=>4|36=>243|35=>242|41=>248|5=>5|9=>9|53=>252|57=>255|63=>257|64=>258|n=>n,fun|n=>n⟩
theorem Aj.sortA:Go.Proofs.SlLaysM.n6 Ae Aj.AFC:={
 mixed:=by kernel_rfl
 f6:=⟨Tryz.f123.name,Aq,AE2.trans (congrArg AA Az)⟩
 f8:=AQr.trans (congrArg AA Az)
 f9:=⟨Tryz.f137.name,Aq,AQq.trans (congrArg AA Az)⟩
 f19:=AQ1.trans (congrArg AA Az)
 f20:=AQ2.trans (congrArg AA Az)
 f21:=⟨Tryz.f139.name,Aq,AQs.trans (congrArg AA Az)⟩
 f22:=⟨Tryz.f140.name,Aq,AQt.trans (congrArg AA Az)⟩
 f23:=⟨Tryz.f141.name,Aq,AQu.trans (congrArg AA Az)⟩
 f24:=⟨Tryz.f142.name,Aq,AQv.trans (congrArg AA Az)⟩
 f25:=⟨Tryz.f143.name,Aq,AQw.trans (congrArg AA Az)⟩
 f26:=⟨Tryz.f144.name,Aq,AQx.trans (congrArg AA Az)⟩
 f27:=⟨Tryz.f145.name,Aq,AQy.trans (congrArg AA Az)⟩
 f28:=⟨Tryz.f146.name,Aq,AQz.trans (congrArg AA Az)⟩
 f29:=⟨Tryz.f147.name,Aq,AQ0.trans (congrArg AA Az)⟩
 f31:=AQ4.trans (congrArg AA Az)
 f32:=AQ5.trans (congrArg AA Az)
 f36:=⟨Tryz.f150.name,Aq,AQ3.trans (congrArg AA Az)⟩
 f37:=⟨Tryz.f153.name,Aq,AQ6.trans (congrArg AA Az)⟩
 f38:=⟨Tryz.f154.name,Aq,AQ7.trans (congrArg AA Az)⟩
 f39:=⟨Tryz.f155.name,Aq,AQ8.trans (congrArg AA Az)⟩
 f41:=⟨Tryz.f156.name,Aq,AQ9.trans (congrArg AA Az)⟩
 t0:=VU0
 a0:=VI0
 z0:=VS0
 v0:=VZ0
 t3:=VU3
 a3:=VI3
 z3:=VS3
 v3:=VZ3
 t4:=VU4
 a4:=VI4
 z4:=VS4
 v4:=VZ4
 t5:=VU5
 a5:=VI5
 z5:=VS5
 v5:=VZ5
 t9:=Kv
 a9:=VI9
 z9:=VS9
 v9:=VZ9
 t26:=AGc
 a26:=AKi
 z26:=AKj
 v26:=AKk
 t27:=AGc
 a27:=AKi
 z27:=AKj
 v27:=AKk
 t29:=Kv
 a29:=VI9
 z29:=VS9
 v29:=VZ9
 t32:=ARk
 a32:=ARl
 z32:=ARm
 v32:=ARn
 t35:=ARo
 a35:=ARp
 z35:=ARq
 v35:=ARr
 t36:=ARs
 a36:=ARt
 z36:=ARu
 v36:=ARv
 t41:=ARw
 a41:=ARx
 z41:=ARy
 v41:=ARz
 t44:=ARf
 a44:=ARg
 z44:=ARh
 v44:=ARi
 t46:=ARb
 a46:=ARc
 z46:=ARd
 v46:=ARe
 t53:=AR0
 a53:=AR1
 z53:=AR2
 v53:=AR3
 t57:=AR4
 a57:=AR5
 z57:=AR6
 v57:=AR7
 t63:=AR8
 a63:=AR9
 z63:=ASA
 v63:=ASB
 t64:=ASC
 a64:=ASD
 z64:=ASE
 v64:=ASF}
def Aj.AHx:Go.Shelf.Ren:=⟨fun|5=>86|7=>121|n=>n,fun|23=>130|25=>9|3=>121|4=>4|20=>20|n=>n,fun|n=>n⟩
theorem Aj.AUD:Go.Proofs.SlLaysW.n5 Ae Aj.AHx:={
 mixed:=by kernel_rfl
 f5:=⟨Tryz.f86.name,Aq,AOR.trans (congrArg AA Az)⟩
 f7:=ARA.trans (congrArg AA Az)
 t4:=VU4
 a4:=VI4
 z4:=VS4
 v4:=VZ4
 t20:=ATy
 a20:=ATz
 z20:=AT0
 v20:=AT1
 t23:=PO
 a23:=AKm
 z23:=AKn
 v23:=AKo}
end Go.Proofs.YtkkgcebhfghdnaaGreatDoor
namespace Go.Proofs.YtkkgcebhfghdnaaGreatDoor.Vw
open Go.RowKit
section
variable {k:ByteArray}{B m m' n:Nat}{A:Option Ag}{α:Type}{w w':AL}
def Ud (a s:Int):Bool:=decide (0<=a) && decide (a<=s)
theorem xB(b:Nat)(a s:Int)(w:AL)(h5:w.cell? ⟨b,5,AB⟩=AA (.int .i64 a))(h6:w.cell? ⟨b,6,AB⟩=AA (.int .i64 s)):
  Au Ae 61 #[.pointer (AA ⟨b,0,AB⟩)] w λe w'=>e=.returned (.bool (Ud a s))/\AZ [] w w':=by
 by_cases ha:0<=a
 ·(have d1:decide (0<=a)=true:=by simp[ha]);have HD:Hid (Ud a s=decide (a<=s)):=AO (by unfold Ud;rw[d1,Bool.true_and]);clear ha;go_enter AKG,Tryz.ntmps61;go_wp2;go_quiet (fail);go_wp2;go_ret;exact⟨by rw[HD.out];rfl,(AZ.refl [] w).drewN _⟩
 (have d1:decide (0<=a)=false:=by simp;omega);have HD:Hid (Ud a s=false):=AO (by unfold Ud;rw[d1,Bool.false_and]);clear ha;go_enter AKG,Tryz.ntmps61;go_wp2;go_quiet (fail);go_wp2;go_ret;exact⟨by rw[HD.out];rfl,(AZ.refl [] w).drewN _⟩
def Vs (a b:ByteArray):Bool:=Op.bytesLess a.toList b.toList || a.toList==b.toList
theorem RY(a b:ByteArray)(w:AL):(binOp .leq 9 (.string a) (.string b)).run Ae w=.ok (.bool (Vs a b)) w:=by
 simp[binOp,Op.stringOp,Vs]
def Ic (f:Bool) (last name:ByteArray):Int:=if CO name=false then 81 else if f=false/\Vs name last=true then 6 else 0
theorem dI(f:Bool)(last name:ByteArray)(w:AL):
  Au Ae 58 #[.bool f,.string last,.string name] w λe w'=>e=.returned (.int .i64 (Ic f last name))/\w'=w:=by
 have hle:=λw=>RY name last w
 cases hg:CO name with
 |false=>
  have HR:Hid (Ic f last name=81):=AO (by unfold Ic;rw[BU hg]);have k36:= @wS;go_enter ACQ,Tryz.ntmps58;(go_wp2_with fail);refine (Ru name _).mono ?_;rintro e w1 ⟨rfl,rfl⟩;rw[hg];go_wp2;go_ret;exact⟨by rw[HR.out];rfl,rfl⟩
 |true=>
  cases f with
  |true=>
   have HR:Hid (Ic true last name=0):=AO (by unfold Ic;rw[BL (by simp[hg]),BL AV]);have k36:= @wS;go_enter ACQ,Tryz.ntmps58;(go_wp2_with fail);refine (Ru name _).mono ?_;rintro e w1 ⟨rfl,rfl⟩;rw[hg];go_wp2;go_ret;exact⟨by rw[HR.out];rfl,rfl⟩
  |false=>
   cases hl:Vs name last with
   |true=>
    have HR:Hid (Ic false last name=6):=AO (by unfold Ic;rw[BL (by simp[hg]),BU ⟨rfl,hl⟩]);rw[hl] at hle;have k36:= @wS;go_enter ACQ,Tryz.ntmps58;(go_wp2_with fail);refine (Ru name _).mono ?_;rintro e w1 ⟨rfl,rfl⟩;rw[hg];go_wp2;go_ret;exact⟨by rw[HR.out];rfl,rfl⟩
   |false=>
    have HR:Hid (Ic false last name=0):=AO (by unfold Ic;rw[BL (by simp[hg]),BL (by simp[hl])]);rw[hl] at hle;have k36:= @wS;go_enter ACQ,Tryz.ntmps58;(go_wp2_with fail);refine (Ru name _).mono ?_;rintro e w1 ⟨rfl,rfl⟩;rw[hg];go_wp2;go_ret;exact⟨by rw[HR.out];rfl,rfl⟩
open Go.Maps Go.Sort Go.Shelf
theorem insert_perm{H:Type}(x:Lit×Dt H): ∀l:List (Lit×Dt H),(DataW.insert x l).Perm (x::l)
 | []=>OJ _
 |y::r=>by
  unfold DataW.insert;split;exact OJ _;exact ((insert_perm x r).cons y).trans (List.Perm.swap x y r)
theorem Ue{H:Type}: ∀l:List (Lit×Dt H),(l.foldr DataW.insert []).Perm l
 | []=>OJ _|x::r=>(insert_perm x _).trans ((Ue r).cons x)
abbrev IV:ByteArray->AQ:=λz=>WL z
def ACc:AQ->Option (Dt Unit×List GZ):=λ_=>AA (.nil,[])
def VA (ks:List ByteArray):List ByteArray:=((ks.map (·.data.toList)).mergeSort (λx y=>decide (x<=y))).map λl=>⟨l.toArray⟩
def OB (ks:List ByteArray):List AQ:=ks.map WL
theorem Mp.owns{b:Nat}{m:List (ByteArray×AQ)}(h:Mp w b IV m){kt:Am}(hkt:Ae.underlying kt=AA .string)(hk: ∀p∈m,p.1.size<=ER)(hm:m.length<=ER):
  ∃D:Dt Unit,w.ownsMap Ae kt ACc b m.length D/\(strKeys D).Perm ((m.map Ac).map (·.data.toList))/\Maps.size D=m.length:=by
 obtain⟨es,clock,hb,he,hn,hs,hc⟩:=h;(have hlen:es.toList.length=m.length:=by have:=congrArg NZ he;simpa using this);have hkeys:=Mp.keys he
 have hat: ∀x∈es.toList,∃k:ByteArray,x.key=WL k/\k.size<=ER:=by
  intro x hx;have:x.key∈es.toList.map (·.key):=CG.2 ⟨x,hx,rfl⟩;rw[hkeys] at this;obtain⟨k,hk1,hk2⟩:=CG.1 this;obtain⟨p,hp1,rfl⟩:=CG.1 hk1;exact⟨p.1,hk2.symm,hk p hp1⟩
 have hrd: ∀x∈es.toList,∃k:ByteArray,x.key=WL k/\WideElems.rd Ae kt ACc x=AA (.string k.data.toList,.nil):=by
  intro x hx;obtain⟨k,h1,h2⟩:=hat x hx;refine⟨k,h1,?_⟩;unfold WideElems.rd;rw[h1,WideMaps.keyOf_string_mk hkt h2];rfl
 refine⟨_,⟨es,clock,hb,⟨by rw[<- WJ,hlen];exact hm,⟨hc,hs,?_⟩,λx hx=>?_⟩,by rw[<- WJ,hlen];exact Bd _,rfl⟩,?_,?_⟩
 ·rw[hkeys];exact List.Pairwise.map IV (R:=(· ≠ ·)) (S:=(· ≠ ·)) (λa b hab e=>hab (by injection e)) hn
 obtain⟨k,_,h2⟩:=hrd x hx;exact⟨_,h2⟩
 ·show (((es.toList.map (WideElems.rg Ae kt ACc)).foldr DataW.insert []).map λp=>strOf p.1).Perm _;refine ((Ue _).map _).trans ?_
  have:(es.toList.map (WideElems.rg Ae kt ACc)).map (λp=>strOf p.1)=(m.map Ac).map (·.data.toList):=by
   rw[En]
   have h2:(es.toList.map λx=>match x.key with| .string a=>a.data.toList|_=>[])=(m.map Ac).map (·.data.toList):=by
    have:=congrArg (List.map λv:AQ=>match v with| .string a=>a.data.toList|_=>[]) hkeys;rw[En,En] at this;exact this
   rw[<- h2];refine Hm λx hx=>?_;obtain⟨k,h3,h4⟩:=hrd x hx;simp only[Function.comp_apply,WideElems.rg,h4,h3,Dx,strOf]
  rw[this]
 show (((es.toList.map (WideElems.rg Ae kt ACc)).foldr DataW.insert [])).length=_;rw[(Ue _).length_eq,DY,hlen]
theorem sortsA(m:Nat):AnyZ.SortsIn Ae Aj.sortedA_ren UU m:=
 ⟨λblk off cap ss W hH hblk hsz=>callsIn_wide.2 (AnyM.slices_Sort_string Aj.sortA blk off cap ss W hH hblk hsz),
  λp cap W=>callsIn_wide.2 (AnyM.slices_Sort_string_none Aj.sortA p cap W)⟩
theorem qH(mb:Option Nat)(W:AL):Au Ae 88 #[.map mb] W λe w'=>e=.returned (.func (.func 124) #[] #[.pointer (AA ⟨W.heap.size,0,AB⟩)])/\w'=W.alloc (.cells #[.map mb] 112):=
 (callsIn_wide (n:=5)).1 (AnyZ.keys_in Aj.AGe UU 5 trivial rfl mb W)
theorem qI(mb:Option Nat)(W:AL):Au Ae 89 #[.map mb] W λe w'=>e=.returned (.func (.func 125) #[] #[.pointer (AA ⟨W.heap.size,0,AB⟩)])/\w'=W.alloc (.cells #[.map mb] 130):=
 (callsIn_wide (n:=5)).1 (AnyZ.keys_in Aj.AGf UU 5 trivial rfl mb W)
theorem Y9{W:AL}{m:List (ByteArray×AQ)}{D:Dt Unit}{v:AQ}{ss:List (List UInt8)}(hperm:(strKeys D).Perm ((m.map Ac).map (·.data.toList)))(hp:ss.Perm (strKeys D))
  (hrow:w'.ownsRow W.heap.size 9 1 v ss.length ((ss.mergeSort (λx y=>decide (x<=y))).map encStr)) (hb:Below W.heap.size W w'):
  Lm 9 1 W (OB (VA (m.map Ac))) m.length (.returned v) w':=by
 (have hlen:ss.length=m.length:=by rw[(hp.trans hperm).length_eq,DY,DY]);have hse:ss.mergeSort (λx y=>decide (x<=y))=((m.map Ac).map (·.data.toList)).mergeSort (λx y=>decide (x<=y)):=mergeSort_of_perm (hp.trans hperm)
 have hsv:OB (VA (m.map Ac))=(((m.map Ac).map (·.data.toList)).mergeSort (λx y=>decide (x<=y))).map encStr:=by
  unfold OB VA;rw[En];rfl
 rw[hse,hlen,<- hsv] at hrow;rcases hrow.2 with ⟨hv,hz⟩|⟨g,cap,cur,hv,hbase,hr⟩
 ·subst hv;refine⟨AB,0,by rw[hz],⟨hrow.1,.inl ⟨by rw[hz],hz⟩⟩,AZ.of_below hb [],AV⟩
 subst hv;exact⟨_,cap,rfl,⟨hrow.1,.inr ⟨g,cap,cur,rfl,DW _,hr⟩⟩,AZ.of_below hb [],by simpa using hbase⟩
theorem AAO(W:AL)(b:Nat)(m:List (ByteArray×AQ))(h:Mp W b IV m)(hk: ∀p∈m,p.1.size<=ER)(hm:m.length<=1073741824):
  Au Ae 87 #[.func (.func 124) #[] #[.pointer (AA ⟨W.heap.size,0,AB⟩)]] (W.alloc (.cells #[.map (AA b)] 112)) (Lm 9 1 (W.alloc (.cells #[.map (AA b)] 112)) (OB (VA (m.map Ac))) m.length):=by
 obtain⟨D,hown,hperm,hsz⟩:=h.owns Kv hk Nb;have hbl:=hown.lt
 have hseq:SeqGives UU 2 Ae 124 #[.pointer (AA ⟨W.heap.size,0,AB⟩)] encStr (λss=>ss.Perm (strKeys D)) (Maps.size D) (W.alloc (.cells #[.map (AA b)] 112)):=
  AnyZ.keys_gives (ρ:=Aj.jf) {Aj.AGe with} UU _ trivial rfl Aa W.heap.size b m.length D _ AV AV (by
   obtain⟨es,clock,hb,Ft,hs,hD⟩:=hown
   exact⟨es,clock,(Below.heap_alloc _ _ b hbl).trans hb,Ft,hs,hD⟩)
 have cS:=AnyZ.sorted_in Aj.sortedA UU 5 trivial trivial trivial trivial rfl Aa (sortsA _) (enters_of AE2 Az rfl) 124 #[.pointer (AA ⟨W.heap.size,0,AB⟩)] trivial (enters_of AKL Az rfl) _ _ (by rw[hsz];unfold ER;omega) (by rw[hsz];omega) _ hseq;change CallsIn _ _ Ae 87 _ _ _ at cS;refine ((callsIn_wide (n:=5)).1 cS).mono ?_;rintro e w' ⟨v,ss,rfl,hp,hrow,hnil,hb⟩;exact Y9 hperm hp hrow hb
theorem AAP(W:AL)(b:Nat)(m:List (ByteArray×AQ))(h:Mp W b IV m)(hk: ∀p∈m,p.1.size<=ER)(hm:m.length<=1073741824):
  Au Ae 87 #[.func (.func 125) #[] #[.pointer (AA ⟨W.heap.size,0,AB⟩)]] (W.alloc (.cells #[.map (AA b)] 130)) (Lm 9 1 (W.alloc (.cells #[.map (AA b)] 130)) (OB (VA (m.map Ac))) m.length):=by
 obtain⟨D,hown,hperm,hsz⟩:=h.owns Kv hk Nb;have hbl:=hown.lt
 have hseq:SeqGives UU 2 Ae 125 #[.pointer (AA ⟨W.heap.size,0,AB⟩)] encStr (λss=>ss.Perm (strKeys D)) (Maps.size D) (W.alloc (.cells #[.map (AA b)] 130)):=
  AnyZ.keys_gives (ρ:=Aj.jg) {Aj.AGf with} UU _ trivial rfl Aa W.heap.size b m.length D _ AV AV (by
   obtain⟨es,clock,hb,Ft,hs,hD⟩:=hown
   exact⟨es,clock,(Below.heap_alloc _ _ b hbl).trans hb,Ft,hs,hD⟩)
 have cS:=AnyZ.sorted_in Aj.sortedA UU 5 trivial trivial trivial trivial rfl Aa (sortsA _) (enters_of AE2 Az rfl) 125 #[.pointer (AA ⟨W.heap.size,0,AB⟩)] trivial (enters_of AKM Az rfl) _ _ (by rw[hsz];unfold ER;omega) (by rw[hsz];omega) _ hseq;change CallsIn _ _ Ae 87 _ _ _ at cS;refine ((callsIn_wide (n:=5)).1 cS).mono ?_;rintro e w' ⟨v,ss,rfl,hp,hrow,hnil,hb⟩;exact Y9 hperm hp hrow hb
theorem ACd(W:AL)(b:Nat)(m:List (ByteArray×AQ))(h:Mp W b IV m):
  Au Ae 86 #[.map (AA b)] W λe w'=>e=.returned (.map (AA W.heap.size))/\Mp w' W.heap.size IV m/\AZ [] W w':=by
 obtain⟨es,clock,hb,he,hn,hs,hc⟩:=h;have c:=AnyW.maps_Clone Aj.AUD b es clock W hb;change Au Ae 86 _ _ _ at c;refine c.mono ?_;rintro e w' ⟨rfl,rfl⟩;exact⟨rfl,⟨es,clock,(MapKept.heap_alloc W _).1,he,hn,hs,hc⟩,(AZ.refl _ _).alloc _⟩
theorem AFD(l:List ByteArray):(l.map (·.data.toList)).map (λl=>(⟨l.toArray⟩:ByteArray))=l:=by
 rw[En]
 conv=>rhs;rw[<- List.map_id l]
 exact Hm λx _=>by cases x;rfl
theorem AGg{β:Type}{m:List (ByteArray×β)}{t:List (ByteArray×α)}(hp:(m.map Ac).Perm (t.map Ac))(hs:Oj t):VA (m.map Ac)=t.map Ac:=by
 unfold VA;rw[show ((m.map Ac).map (·.data.toList)).mergeSort (λx y=>decide (x<=y))=((t.map Ac).map (·.data.toList)).mergeSort (λx y=>decide (x<=y)) from mergeSort_of_perm (hp.map _)];rw[List.mergeSort_of_pairwise];exact AFD _;refine List.Pairwise.map _ (λa b hab=>?_) hs;rw[Sz] at hab;simp only[decide_eq_true_eq];exact List.le_of_lt hab
def ACe (m:List (ByteArray×AQ)) (k:ByteArray):AQ:=(BJ m k).getD (.map AB)
def Qb (a s:Int) (m:List (ByteArray×AQ)) (there:Bool) (ns:List ByteArray):Int:=
 if Ud a s=true then 80 else if ns.all CO=false then 81 else if there=true/\(BJ m (ns.headD Ku)).isNone=true then 82 else 0
theorem AAQ{c:Nat}{ns:List ByteArray}(h:Rd w 1 A n c (OB ns)){j:Nat}(hj:j<n):
  ∃ad s,A=AA ad/\ns[j]? =AA s/\w.cell? (ad.add j)=AA (.string s):=by
 obtain⟨ad,u,hA,hx,hc⟩:=h.Yu hj;unfold OB at hx;rw[Ba] at hx
 cases hs:ns[j]? with|none=>rw[hs] at hx;cases hx|some s=>rw[hs] at hx;simp at hx;subst hx;exact⟨ad,s,hA,rfl,hc⟩
theorem ACf(b sb:Nat)(a s:Int)(m:List (ByteArray×AQ))(there:Bool)(A:Option Ag)(n c:Nat)(ns:List ByteArray)(w:AL)
  (h0:w.cell? ⟨b,0,AB⟩=AA (.map (AA sb))) (h5:w.cell? ⟨b,5,AB⟩=AA (.int .i64 a)) (h6:w.cell? ⟨b,6,AB⟩=AA (.int .i64 s))
  (hm:Mp w sb IV m) (hv: ∀p∈m,∃r,p.2=.map (AA r)) (hr:Rd w 1 A n c (OB ns)) (hn:n<=1073741824) (ht:there=true->0<n):
  Au Ae 70 #[.pointer (AA ⟨b,0,AB⟩),.bool there,.slice A n c] w λe w'=>e=.returned (.int .i64 (Qb a s m there ns))/\AZ [] w w':=by
 (have hl:ns.length=n:=by have:=hr.1;simp[OB] at this;omega);have HR:=AO hr;have HL:=AO hl;have HMP:=AO hm;have HV:=AO hv;have H0:=AO h0;have HT:=AO ht;clear hr hl hm hv h0 ht;have k36:= @wS;have k61:= @AKd;go_enter AOJ,Tryz.ntmps70;(go_wp2_with fail);refine (xB b a s w h5 h6).mono ?_;rintro e w1 ⟨rfl,hc1⟩;have CZ:=AO hc1;clear hc1 h5 h6
 cases hd:Ud a s with
 |true=>
  have HE:Hid (Qb a s m there ns=80):=AO (by unfold Qb;rw[BU hd]);clear hd;go_wp2;go_ret;exact⟨by rw[HE.out];rfl,CZ.out⟩
 |false=>
  have HD:=AO hd;clear hd;go_wp2;go_loopw [13] (λq wr=>∃i:Nat,i<=n/\q=.int .i64 i/\(∀x∈ns.take i,CO x=true)/\AZ [] w wr) (λq _=>n - (intOf q).toNat)
  case atStart=>exact⟨0,DW _,rfl,AV,CZ.out⟩
  obtain⟨i,hi,rfl,hall,hch⟩:=hrel;have LQ:=AO hall;have DJ:=AO hch;clear hall hch;by_cases hlt:i<n
  ·(have hlt':(i:Int)<n:=by omega);obtain⟨ad,x,rfl,hx,hcell⟩:=AAQ (HR.out.Ap DJ.out GM) hlt;have HX:=AO hx;clear hx;(go_wp2_with fail);refine (Ru x _).mono ?_;rintro e w3 ⟨rfl,rfl⟩
   cases hg:CO x with
   |false=>
    have HE:Hid (Qb a s m there ns=81):=AO (by
     unfold Qb
     rw[BL (by rw[HD.out];simp),BU (by rw[List.all_eq_false];exact⟨x,Bi HX.out,by simp[hg]⟩)])
    clear hg;go_wp2;go_ret;exact⟨by rw[HE.out];rfl,DJ.out⟩
   |true=>
    have HG:=AO hg;clear hg;go_wp2;go_roundw
    case rel=>
     refine⟨i+1,Aa,by go_num,λy hy=>?_,DJ.out⟩;rw[take_snoc _ _ _ HX.out] at hy;rcases Bj.1 hy with h|h;exact LQ.out y h;simp at h;subst h;exact HG.out
    simp[intOf];omega
  (obtain rfl:i=n:=by omega);have HAL:Hid (ns.all CO=true):=AO (JD.2 (λx hx=>LQ.out x (by rw[Ea (by rw[HL.out];exact Bd _)];exact hx)))
  cases there with
  |false=>
   have HE:Hid (Qb a s m false ns=0):=AO (by unfold Qb;rw[BL (by rw[HD.out];simp),BL (by rw[HAL.out];simp),BL AV]);(go_wp2_with fail);go_quiet (fail);go_wp2;go_ret;exact⟨by rw[HE.out];rfl,DJ.out.drewN _⟩
  |true=>
   have hn0:=HT.out rfl;obtain⟨ad,x,rfl,hx,hcell⟩:=AAQ (HR.out.Ap DJ.out GM) hn0;(have hcell0:wr.cell? ad=AA (.string x):=by simpa[Q9] using hcell);(have hn1:(0:Int)<(i:Int):=by omega);have hq:=λw r=>run_eql_map_nil (P:=Ae) w 130 _ _ r PO;have h0:=DJ.out.cell H0.out (λh=>BH h);have hmp:=HMP.out.Ap DJ.out (λh=>BH h);have hlk: ∀q,(Po 112 (.map (AA sb)) (.string x) false).run Ae (wr.drewN q)=.ok (ACe m x) (wr.drewN q):=λq=>(Mp.lookup (hmp.Ap ((AZ.refl [] wr).drewN q) (λh=>BH h)) (Cm Kv) Iy (z:=.map AB) Az x).1
   have hhd:ns.headD Ku=x:=by
    cases ns with|nil=>simp at hx|cons y r=>simp at hx;exact hx
   have HHD:=AO hhd;clear hx hcell hmp hhd;rcases hdv:BJ m x with _|v
   ·(have nZ:ACe m x=.map AB:=by unfold ACe;rw[hdv];rfl);have HE:Hid (Qb a s m true ns=82):=AO (by unfold Qb;rw[BL (by rw[HD.out];simp),BL (by rw[HAL.out];simp),BU ⟨rfl,by rw[HHD.out,hdv];rfl⟩]);rw[nZ] at hlk;clear nZ hdv;(go_wp2_with fail);go_quiet (fail);go_wp2;go_ret;exact⟨by rw[HE.out];rfl,DJ.out.drewN _⟩
   obtain⟨r,hrv⟩:=HV.out _ (CQ hdv);(have nZ:ACe m x=.map (AA r):=by unfold ACe;rw[hdv];exact hrv);have HE:Hid (Qb a s m true ns=0):=AO (by unfold Qb;rw[BL (by rw[HD.out];simp),BL (by rw[HAL.out];simp),BL (by rintro⟨_,h⟩;rw[HHD.out,hdv] at h;cases h)]);rw[nZ] at hlk;clear nZ hdv hrv;(go_wp2_with fail);go_quiet (fail);go_wp2;go_ret;exact⟨by rw[HE.out];rfl,DJ.out.drewN _⟩
section
variable {κ α β:Type} [DecidableEq κ]
theorem FX(p:κ×α)(t:List (κ×α))(k:κ):BJ (p::t) k=if p.1=k then AA p.2 else BJ t k:=by
 unfold BJ;rw[BN,RH];by_cases h:p.1=k;simp[h];(have hb:(p.1==k)=false:=by simp[h]);rw[BL h];simp only[hb];cases (t.map Ac).idxOf? k<;>simp
theorem gp(g:α->β)(t:List (κ×α))(k:κ):BJ (t.map λp=>(p.1,g p.2)) k=(BJ t k).map g:=by
 induction t with
 |nil=>rfl|cons p r ih=>
  rw[BN,FX,FX,ih];by_cases h:p.1=k<;>simp[h]
end
def Ip (f:List (ByteArray×Nat)):List (ByteArray×AQ):=f.map λp=>(p.1,.pointer (AA ⟨p.2,0,AB⟩))
def FI (t:List (ByteArray×Nat×List (ByteArray×Nat))):List (ByteArray×AQ):=t.map λp=>(p.1,.map (AA p.2.1))
structure Tree (w:AL) (tb:Nat) (t:List (ByteArray×Nat×List (ByteArray×Nat))):Prop where
 top:Mp w tb IV (FI t)
 sub: ∀p∈t,Mp w p.2.1 IV (Ip p.2.2)
 apart:(tb::t.map λp=>p.2.1).Nodup
theorem Tree.Ap{w w':AL}{tb:Nat}{t:List (ByteArray×Nat×List (ByteArray×Nat))}{L:List Nat}(h:Tree w tb t)(hc:AZ L w w')(h1:tb∉L)(h2: ∀p∈t,p.2.1∉L):Tree w' tb t:=
 ⟨h.top.Ap hc h1,λp hp=>(h.sub p hp).Ap hc (h2 p hp),h.apart⟩
theorem Tree.Es{tb:Nat}{t:List (ByteArray×Nat×List (ByteArray×Nat))}(h:Tree w tb t)(hc:AZ [] w w'):Tree w' tb t:=h.Ap hc BH GM
theorem Ez(t:List (ByteArray×Nat×List (ByteArray×Nat)))(k:ByteArray):BJ (FI t) k=(BJ t k).map λd=>Value.map (AA d.1):=
 gp (λd:Nat×List (ByteArray×Nat)=>Value.map (AA d.1)) t k
theorem Vt(f:List (ByteArray×Nat))(k:ByteArray):BJ (Ip f) k=(BJ f k).map λi=>QL (AA ⟨i,0,AB⟩):=
 gp (λi:Nat=>QL (AA ⟨i,0,AB⟩)) f k
theorem qJ{t:List (ByteArray×Nat×List (ByteArray×Nat))}: ∀p∈FI t,∃r,p.2=.map (AA r):=by
 intro p hp;obtain⟨q,_,rfl⟩:=CG.1 hp;exact⟨q.2.1,rfl⟩
def Vu (a s:Int) (t:List (ByteArray×Nat×List (ByteArray×Nat))) (dir name:ByteArray):Option Nat×Int:=
 if Qb a s (FI t) true [dir,name]≠0 then (AB,Qb a s (FI t) true [dir,name]) else
 match (BJ t dir).bind λd=>BJ d.2 name with|none=>(AB,82)|some i=>(AA i,0)
def Xl (r:Option Nat×Int):AQ:=.tuple #[.pointer (r.1.map λi=>⟨i,0,AB⟩),.int .i64 r.2]
theorem AHy(b sb:Nat)(a s:Int)(t:List (ByteArray×Nat×List (ByteArray×Nat)))(dir name:ByteArray)(w:AL)
  (h0:w.cell? ⟨b,0,AB⟩=AA (.map (AA sb))) (h5:w.cell? ⟨b,5,AB⟩=AA (.int .i64 a)) (h6:w.cell? ⟨b,6,AB⟩=AA (.int .i64 s))
  (ht:Tree w sb t):
  Au Ae 81 #[.pointer (AA ⟨b,0,AB⟩),.string dir,.string name] w λe w'=>e=.returned (Xl (Vu a s t dir name))/\AZ [] w w':=by
 have HT:=AO ht;have H0:=AO h0;have H5:=AO h5;have H6:=AO h6;clear ht h0 h5 h6;have k70:= @jc;go_enter AON,Tryz.ntmps81;(go_wp2_with fail);have hal:AZ [] w (w.alloc (.cells #[.string dir,.string name] 9)):=(AZ.refl _ _).alloc _;refine (ACf b sb a s (FI t) true _ 2 2 [dir,name] _ (hal.cell H0.out (λh=>BH h)) (hal.cell H5.out (λh=>BH h)) (hal.cell H6.out (λh=>BH h)) (HT.out.top.Ap hal BH) qJ (Own.lit w 9 1 #[.string dir,.string name] 2 Aq rfl).rd Aq (λ_=>by decide)).mono ?_;rintro e w1 ⟨rfl,hc1⟩;have CZ:Hid (AZ [] w w1):=AO (hal.Ah hc1);clear hc1 hal;obtain⟨E,hE⟩: ∃E,Qb a s (FI t) true [dir,name]=E:=⟨_,rfl⟩;rw[hE];have HE:=AO hE;clear hE;by_cases h:E=0
 ·subst h
  have hne: ∃d,BJ t dir=AA d:=by
   cases hd:BJ t dir with
   |some d=>exact⟨d,rfl⟩|none=>
    have q:=HE.out;(have hg:BJ (FI t) dir=AB:=by rw[Ez,hd];rfl);unfold Qb at q;split at q;(cases q);split at q;(cases q);simp only[Rj,hg,Option.isNone_none,and_self,if_true] at q;cases q
  obtain⟨d,hd⟩:=hne;have h0:=CZ.out.cell H0.out (λh=>BH h);have ht1:=HT.out.Es CZ.out;have hl1:=(Mp.lookup ht1.top (Cm Kv) Iy (z:=.map AB) Az dir).1;have hl2:=(Mp.lookup (ht1.sub _ (CQ hd)) (Cm Kv) PO (z:=.pointer AB) Az name).1;rw[show BJ (FI t) dir=AA (.map (AA d.1)) from by rw[Ez,hd];rfl] at hl1;simp only[Dx] at hl1;simp only at hl2;rw[show BJ (Ip d.2) name=(BJ d.2 name).map (λi=>QL (AA ⟨i,0,AB⟩)) from Vt _ _] at hl2;have HD:=AO hd;clear hd ht1
  cases hx:BJ d.2 name with
  |none=>
   have HR:Hid (Vu a s t dir name=(AB,82)):=AO (by unfold Vu;rw[BL (by rw[HE.out];simp),HD.out];simp only[WG,hx]);rw[hx] at hl2;simp only[YC,Option.getD_none] at hl2;clear hx;go_wp2
   go_ret2
   exact⟨by rw[HR.out];rfl,CZ.out⟩
  |some i=>
   have HR:Hid (Vu a s t dir name=(AA i,0)):=AO (by unfold Vu;rw[BL (by rw[HE.out];simp),HD.out];simp only[WG,hx]);rw[hx] at hl2;simp only[Fj,Dx] at hl2;clear hx;go_wp2
   go_ret2
   exact⟨by rw[HR.out];rfl,CZ.out⟩
 (have hb:(E !=0)=true:=by simp[h]);have HR:Hid (Vu a s t dir name=(AB,E)):=AO (by unfold Vu;rw[BU (by rw[HE.out];exact h),HE.out]);clear h;go_wp2
 go_ret2
 exact⟨by rw[HR.out];rfl,CZ.out⟩
section
variable {κ α β:Type} [DecidableEq κ]
theorem ND(t:List (κ×α))(k k':κ):BJ (without t k) k'=if k=k' then AB else BJ t k':=by
 induction t with
 |nil=>unfold without BJ;split<;>rfl|cons p r ih=>
  rw[Eb,FX];by_cases h:p.1=k
  ·rw[BU h,ih];by_cases h2:k=k';rw[BU h2,BU h2];rw[BL h2,BL h2,BL (λe=>h2 (h▸e))]
  rw[BL h,FX,ih];by_cases h2:p.1=k';rw[BU h2,BL (λe=>h (h2.trans e.symm)),BU h2];rw[BL h2,BL h2]
theorem Zq{t:List (κ×α)}(hn:(t.map Ac).Nodup)(k k':κ):BJ (JA t k) k'=if k=k' then AB else BJ t k':=by
 rw[Me hn,ND]
theorem GV{t:List (κ×α)}{k:κ}:(BJ t k).isSome=true↔k∈t.map Ac:=by
 cases h:BJ t k with|none=>rw[Ey] at h;simp[h]|some v=>exact⟨λ_=>CG.2 ⟨_,CQ h,rfl⟩,λ_=>rfl⟩
theorem LU{t:List (κ×α)}{p:κ×α}(hn:(t.map Ac).Nodup)(h:p∈t):BJ t p.1=AA p.2:=RX hn h
end
section
variable {α:Type}
theorem Qc{t:List (ByteArray×α)}(hk:k∉t.map Ac)(v:α)(k':ByteArray):BJ (Di k v t) k'=if k=k' then AA v else BJ t k':=by
 induction t with
 |nil=>
  simp only[Di];rw[FX]
 |cons p r ih=>
  have h1:k≠p.1:=λe=>hk (by simp[e]);have h2:k∉r.map Ac:=λe=>hk (DD _ e);rw[Di];split;rw[FX];rw[FX,ih h2,FX];by_cases h3:p.1=k';rw[BU h3,BL (λe=>h1 (e.trans h3.symm)),BU h3];rw[BL h3,BL h3]
theorem Jm{t:List (ByteArray×α)}(k:ByteArray):k∉(without t k).map Ac:=by
 intro h;obtain⟨p,hp,rfl⟩:=CG.1 h;unfold without at hp;simp at hp
theorem FP{t:List (ByteArray×α)}{p:ByteArray×α}:p∈without t k↔p∈t/\p.1≠k:=by
 unfold without;simp
theorem Nr{t:List (ByteArray×α)}{v:α}{p:ByteArray×α}:p∈Di k v t↔p=(k,v)\/p∈t:=by
 rw[(G8 k v t).mem_iff,BF]
end
abbrev KH:=List (ByteArray×Nat)
abbrev Tr:=List (ByteArray×KH)
inductive EN where
 |Cb (d:ByteArray)|create (d n:ByteArray) (i:Nat)|rename (a b:ByteArray)|remove (d n:ByteArray)|rmdir (d:ByteArray)
def FQ (T:Tr) (d:ByteArray):KH:=(BJ T d).getD []
def EN.on (T:Tr):EN->Tr
 | .Cb d=>Di d [] T| .create d n i=>Di d (Di n i (FQ T d)) (without T d)| .rename a b=>Di b (FQ T a) (without (without T a) b)| .remove d n=>Di d (without (FQ T d) n) (without T d)| .rmdir d=>without T d
def EN.ok (m:Nat) (T:Tr):EN->Prop
 | .Cb d=>CO d=true/\BJ T d=AB| .create d n i=>i<m/\CO n=true/\∃F,BJ T d=AA F/\BJ F n=AB| .rename a b=>CO b=true/\∃F,BJ T a=AA F| .remove d _=>∃F,BJ T d=AA F| .rmdir d=>∃F,BJ T d=AA F
structure Val (m:Nat) (T:Tr):Prop where
 VA:Oj T
 sub: ∀p∈T,Oj p.2
 ids: ∀p∈T,∀q∈p.2,q.2<m
 nm: ∀p∈T,CO p.1=true
 nms: ∀p∈T,∀q∈p.2,CO q.1=true
theorem Val.Xm{T:Tr}(h:Val m T)(d:ByteArray):Oj (FQ T d)/\(∀q∈FQ T d,q.2<m)/\∀q∈FQ T d,CO q.1=true:=by
 unfold FQ
 cases hd:BJ T d with|none=>exact⟨mW,λq hq=>by simp at hq,λq hq=>by simp at hq⟩|some F=>exact⟨h.sub _ (CQ hd),h.ids _ (CQ hd),h.nms _ (CQ hd)⟩
theorem Val.mono{T:Tr}(h:Val m T)(hm:m<=m'):Val m' T:=⟨h.VA,h.sub,λp hp q hq=>Em (h.ids p hp q hq) hm,h.nm,h.nms⟩
theorem Val.without{m:Nat}{T:Tr}(h:Val m T)(d:ByteArray):Val m (without T d):=
 ⟨h.VA.without d,λp hp=>h.sub p (FP.1 hp).1,λp hp=>h.ids p (FP.1 hp).1,λp hp=>h.nm p (FP.1 hp).1,λp hp=>h.nms p (FP.1 hp).1⟩
theorem Val.with_{m:Nat}{T:Tr}(h:Val m T){d:ByteArray}{F:KH}(hd:d∉T.map Ac)(hg:CO d=true)(h1:Oj F)(h2: ∀q∈F,q.2<m)(h3: ∀q∈F,CO q.1=true):Val m (Di d F T):=
 ⟨h.VA.with_ F hd,λp hp=>by rcases Nr.1 hp with rfl|hp;exact h1;exact h.sub p hp,λp hp=>by rcases Nr.1 hp with rfl|hp;exact h2;exact h.ids p hp,
  λp hp=>by rcases Nr.1 hp with rfl|hp;exact hg;exact h.nm p hp,λp hp=>by rcases Nr.1 hp with rfl|hp;exact h3;exact h.nms p hp⟩
theorem Val.on{m:Nat}{T:Tr}(h:Val m T){c:EN}(hc:c.ok m T):Val m (c.on T):=by
 cases c with
 |Cb d=>exact h.with_ (Ey.1 hc.2) hc.1 mW AV AV|create d n i=>
  obtain⟨hi,hg,F,hF,hn⟩:=hc;(have hf:FQ T d=F:=by unfold FQ;rw[hF];rfl);refine (h.without d).with_ (Jm d) (h.nm _ (CQ hF)) ?_ ?_ ?_;rw[hf];exact (h.sub _ (CQ hF)).with_ i (Ey.1 hn)
  ·rw[hf];intro q hq;rcases Nr.1 hq with rfl|hq;exact hi;exact h.ids _ (CQ hF) q hq
  rw[hf];intro q hq;rcases Nr.1 hq with rfl|hq;exact hg;exact h.nms _ (CQ hF) q hq
 |rename a b=>
  exact ((h.without a).without b).with_ (Jm b) hc.1 (h.Xm a).1 (h.Xm a).2.1 (h.Xm a).2.2
 |remove d n=>
  obtain⟨F,hF⟩:=hc;exact (h.without d).with_ (Jm d) (h.nm _ (CQ hF)) ((h.Xm d).1.without n) (λq hq=>(h.Xm d).2.1 q (FP.1 hq).1) (λq hq=>(h.Xm d).2.2 q (FP.1 hq).1)
 |rmdir d=>exact h.without d
theorem AFE{x:ByteArray}(h:CO x=true):x.size<=30:=by
 unfold CO at h;simp only[DV,decide_eq_true_eq] at h;omega
def wd (T:Tr):Nat:=(T.map λp=>p.2.length+1).sum
theorem YV(d:ByteArray)(F:KH)(T:Tr):wd (Di d F T)=F.length+1+wd T:=by
 unfold wd;rw[((G8 d F T).map _).sum_nat,BN,Bz]
theorem Xn(T:Tr)(d:ByteArray):wd (without T d)<=wd T:=by
 unfold wd without
 induction T with
 |nil=>simp|cons p r ih=>
  rw[XC];split;simp only[BN,Bz];omega;simp only[BN,Bz];omega
theorem AAR(T:Tr)(d:ByteArray):(FQ T d).length+(if BJ T d=AB then 0 else 1)+wd (without T d)<=wd T:=by
 induction T with
 |nil=>simp[FQ,BJ,wd,without]|cons p r ih=>
  unfold FQ at ih⊢;rw[FX,Eb];by_cases h:p.1=d
  ·rw[BU h,BU h];have:=Xn r d;simp only[Dx,wd,BN,Bz] at this⊢;simp;omega
  rw[BL h,BL h];simp only[wd,BN,Bz] at ih⊢;omega
theorem AAS(T:Tr):T.length<=wd T:=by
 unfold wd
 induction T with|nil=>simp|cons p r ih=>simp only[EY,BN,Bz];omega
theorem AAT{T:Tr}{p:ByteArray×KH}(h:p∈T):p.2.length<=wd T:=by
 unfold wd
 induction T with
 |nil=>simp at h|cons q r ih=>
  simp only[BN,Bz];rcases BF.1 h with rfl|h;omega;have:=ih h;omega
theorem AFF(k:ByteArray)(v:α)(t:List (ByteArray×α)):(Di k v t).length=t.length+1:=by
 rw[(G8 k v t).length_eq,EY]
theorem AAU(t:List (ByteArray×α))(k:ByteArray):(without t k).length<=t.length:=aY _ _
theorem ASM{T:Tr}{c:EN}(hc:c.ok m T):wd (c.on T)<=wd T+1:=by
 cases c with
 |Cb d=>simp only[EN.on,YV,Hg];omega|create d n i=>
  obtain⟨hi,hg,F,hF,hn⟩:=hc;have:=AAR T d;rw[hF,BL AV] at this;simp only[EN.on,YV,AFF];omega
 |rename a b=>
  obtain⟨hg,F,hF⟩:=hc;have:=AAR T a;rw[hF,BL AV] at this;have:=Xn (without T a) b;simp only[EN.on,YV];omega
 |remove d n=>
  obtain⟨F,hF⟩:=hc;have:=AAR T d;rw[hF,BL AV] at this;have:=AAU (FQ T d) n;simp only[EN.on,YV];omega
 |rmdir d=>simp only[EN.on];have:=Xn T d;omega
abbrev FY:=List Int×List (List Int)
def FY.all (f:FY):List Int:=f.1++f.2.flatten
structure St where
 seen:Tr
 safe:Tr
 EW:List EN
 files:List FY
 wr:List Nat
 BK:Int
 stop:Int
 steps:Nat
def IL (T:Tr) (cs:List EN):Tr:=cs.foldl (λt c=>EN.on t c) T
def gq (m:Nat):Tr->List EN->Prop
 |_,[]=>True|T,c::r=>c.ok m T/\gq m (c.on T) r
theorem S9(T:Tr)(cs:List EN)(c:EN):IL T (cs++[c])=c.on (IL T cs):=by simp[IL]
theorem AHz{T:Tr}{cs:List EN}{c:EN}:gq m T (cs++[c])↔gq m T cs/\c.ok m (IL T cs):=by
 induction cs generalizing T with|nil=>simp[gq,IL]|cons x r ih=>simp only[Dn,gq,ih,IL,V9,and_assoc]
theorem gu{T:Tr}{cs:List EN}(h:gq m T cs)(k:Nat):gq m T (cs.take k):=by
 induction cs generalizing T k with
 |nil=>simpa using h|cons x r ih=>
  cases k with|zero=>exact Ar|succ k=>exact⟨h.1,ih h.2 k⟩
theorem ANB{T:Tr}{cs:List EN}(h:gq m T cs){i:Nat}{c:EN}(hi:cs[i]? =AA c):c.ok m (IL T (cs.take i)):=by
 induction cs generalizing T i with
 |nil=>simp at hi|cons x r ih=>
  cases i with|zero=>simp at hi;subst hi;exact h.1|succ i=>simp at hi;simpa[IL] using ih h.2 hi
theorem EN.AK2{T:Tr}{c:EN}(h:c.ok m T)(hm:m<=m'):c.ok m' T:=by
 cases c<;>first|exact h|exact⟨Em h.1 hm,h.2⟩
theorem AH0{T:Tr}{cs:List EN}(h:gq m T cs)(hm:m<=m'):gq m' T cs:=by
 induction cs generalizing T with|nil=>trivial|cons x r ih=>exact⟨EN.AK2 h.1 hm,ih h.2⟩
theorem Val.run{T:Tr}{cs:List EN}(h:Val m T)(hc:gq m T cs):Val m (IL T cs):=by
 induction cs generalizing T with|nil=>exact h|cons x r ih=>exact ih (h.on hc.1) hc.2
theorem AGh{T:Tr}{cs:List EN}(hc:gq m T cs):wd (IL T cs)<=wd T+cs.length:=by
 induction cs generalizing T with
 |nil=>simp[IL]|cons x r ih=>
  have h1:=ASM hc.1;have h2:=ih hc.2;simp only[IL,V9,EY] at h2⊢;omega
def Ie (fs:List FY):Nat:=(fs.map λf=>f.all.length+f.2.length).sum
theorem AGi{fs:List FY}{f:FY}(h:f∈fs):f.all.length+f.2.length<=Ie fs:=by
 unfold Ie
 induction fs with
 |nil=>simp at h|cons q r ih=>
  simp only[BN,Bz];rcases BF.1 h with rfl|h;omega;have:=ih h;omega
structure Inv (B:Nat) (S:St):Prop where
 safe:Val S.files.length S.safe
 EW:gq S.files.length S.safe S.EW
 seen:IL S.safe S.EW=S.seen
 wr: ∀x∈S.wr,x<S.files.length
 wds:wd S.safe+S.EW.length<=B
 nf:S.files.length<=B
 bulk:Ie S.files<=B
 nw:S.wr.length<=B
 st:S.steps<=B
 BK:0<=S.BK/\S.BK<=9223372036854775807
theorem Inv.val{S:St}(h:Inv B S):Val S.files.length S.seen:=by rw[<- h.seen];exact h.safe.run h.EW
theorem Inv.wd{B:Nat}{S:St}(h:Inv B S):wd S.seen<=B:=by rw[<- h.seen];have:=AGh h.EW;have:=h.wds;omega
theorem Inv.mono{B':Nat}{S:St}(h:Inv B S)(hb:B<=B'):Inv B' S:=by
 obtain⟨h1,h2,h3,h4,h5,h6,h7,h8,h9,h10⟩:=h;exact⟨h1,h2,h3,h4,Aa,Aa,Aa,Aa,Aa,h10⟩
def St.down (S:St):Bool:=Ud S.stop S.steps
def St.ask (S:St) (there:Bool) (ns:List ByteArray):Int:=
 if S.down=true then 80 else if ns.all CO=false then 81 else if there=true/\(BJ S.seen (ns.headD Ku)).isNone=true then 82 else 0
def St.Om (S:St) (d n:ByteArray):Option Nat×Int:=
 if S.ask true [d,n]≠0 then (AB,S.ask true [d,n]) else match BJ (FQ S.seen d) n with|none=>(AB,82)|some i=>(AA i,0)
def St.bytes (S:St) (i:Nat):List Int:=FY.all (S.files.getD i ([],[]))
def St.view (S:St):List (ByteArray×List (ByteArray×List Int)):=
 if S.down=true then [] else S.seen.map λp=>(p.1,p.2.map λq=>(q.1,S.bytes q.2))
def bytesOf (D:List (ByteArray×List (ByteArray×List Int))):Nat:=(D.map λp=>(p.2.map λq=>q.2.length).sum).sum
def St.used (S:St):Nat:=bytesOf S.view
def St.keep (S:St) (ks:List Bool) (x:Nat):List Bool:=((S.wr.zipIdx.filter λp=>p.1==x).map λp=>(ks[p.2]?).getD false)
def St.after (S:St) (ks:List Bool) (i:Nat):List Int:=let f:=S.files.getD i ([],[]);PS f.1 f.1.length f.2 (S.keep ks i)
def St.left (S:St) (ks:List Bool) (names:Int):List (ByteArray×List (ByteArray×List Int)):=
 (IL S.safe (S.EW.take names.toNat)).map λp=>(p.1,p.2.map λq=>(q.1,S.after ks q.2))
def St.make (S:St) (c:EN):St:={S with seen:=c.on S.seen,EW:=S.EW++[c],steps:=S.steps+1}
def St.Cb (S:St) (d:ByteArray):St×Int:=
 if S.ask false [d]≠0 then (S,S.ask false [d]) else if (BJ S.seen d).isSome=true then (S,83) else (S.make (.Cb d),0)
def St.create (S:St) (d n:ByteArray):St×Int:=
 if S.ask true [d,n]≠0 then (S,S.ask true [d,n]) else if (BJ (FQ S.seen d) n).isSome=true then (S,83) else
  (({S with files:=S.files++[([],[])]}:St).make (.create d n S.files.length),0)
def St.write (S:St) (d n:ByteArray) (data:List Int):St×Int:=
 match S.Om d n with
 |(AB,e)=>(S,e)
 |(AA x,_)=>if data=[] then ({S with steps:=S.steps+1},0) else if S.BK<(S.used:Int)+data.length then (S,85) else
  ({S with files:=S.files.modify x (λf=>(f.1,f.2++[data])),wr:=S.wr++[x],steps:=S.steps+1},0)
def St.sync (S:St) (d n:ByteArray):St×Int:=
 match S.Om d n with|(AB,e)=>(S,e)|(AA x,_)=>({S with files:=S.files.modify x (λf=>(FY.all f,[])),wr:=S.wr.filter (λy=>y !=x),steps:=S.steps+1},0)
def St.names (S:St):St×Int:=
 if S.down=true then (S,80) else ({S with safe:=S.seen,EW:=[],steps:=S.steps+1},0)
def St.rename (S:St) (a b:ByteArray):St×Int:=
 if S.ask true [a,b]≠0 then (S,S.ask true [a,b]) else (S.make (.rename a b),0)
def St.remove (S:St) (d n:ByteArray):St×Int:=
 match S.Om d n with|(AB,e)=>(S,e)|(AA _,_)=>(S.make (.remove d n),0)
def St.rmdir (S:St) (d:ByteArray):St×Int:=
 if S.ask true [d]≠0 then (S,S.ask true [d]) else if (FQ S.seen d).length>0 then (S,85 - 1) else (S.make (.rmdir d),0)
def St.list (S:St) (d:ByteArray):List ByteArray×Int:=
 if S.ask true [d]≠0 then ([],S.ask true [d]) else ((FQ S.seen d).map Ac,0)
def St.NF (S:St):List ByteArray×Int:=if S.down=true then ([],80) else (S.seen.map Ac,0)
theorem qK{c:Nat}{xs:List Int}(h:Rd w 1 A n c (bv xs)):(convert 62 9 (.slice A n c)).run Ae w=.ok (.string (Fa xs)) w:=by
 have hl:xs.length=n:=by have:=h.1;simp at this;omega
 cases A with
 |none=>
  have h1:=h.2.2.2.1 rfl;have h2:=h.2.1;have hx:xs=[]:=RD Aa;subst hx;exact run_convert_bytes_nil w 62 5 wU VU5 _ _ _ Kv
 |some ad=>
  have hld:(loadCells ad n).run Ae w=.ok (bv xs).toArray w:=by
   have:=run_loadCells_list (P:=Ae) w ad (bv xs) (λj v hj=>(h.2.2.2.2 ad rfl).2 j v hj);simpa[hl] using this
  rw[run_convert_bytes_string w _ _ _ _ n c wU VU5 Kv,run_bytesToString w ad n c xs hld,foldl_push_bytes];simp[Fa,Ku,ByteArray.emptyWithCapacity];rfl
def dJ (p:Prop) (w:AL) (e:Fe) (w':AL):Prop:=∃b:Bool,e=.returned (.bool b)/\(p->b=true)/\AZ [] w w'
theorem AFG(A:Option Ag)(n c:Nat)(xs:List Int)(B:Option Ag)(m d:Nat)(ys:List Int)(w:AL)(ha:Rd w 1 A n c (bv xs))(hb:Rd w 1 B m d (bv ys)):
  Au Ae 65 #[.slice A n c,.slice B m d] w (dJ (xs=ys) w):=by
 have h1:=qK ha;have h2:=qK hb;obtain⟨s,hs⟩: ∃s,Fa xs=s:=⟨_,rfl⟩;obtain⟨t,ht⟩: ∃t,Fa ys=t:=⟨_,rfl⟩;rw[hs] at h1;rw[ht] at h2;have HST:Hid (xs=ys->s=t):=AO (by rintro rfl;rw[<- hs,<- ht]);clear ha hb hs ht;go_enter AOH,Tryz.ntmps65;go_wp2;go_ret;refine⟨_,rfl,λh=>?_,AZ.refl _ _⟩;rw[HST.out h];simp
end
section
variable {d n:ByteArray}{p:ByteArray×Nat×List (ByteArray×Nat)}{c:EN}{F:KH}{f:List (ByteArray×Nat)}{L P ib:List Nat}{B fb i j k tb x:Nat}{S:St}{T T':Tr}{w w' w1:AL}
theorem ACg(tb db:Nat)(m:List (ByteArray×AQ))(dir:ByteArray)(w:AL)(hm:Mp w tb IV m)(hd:w.cell? ⟨db,0,AB⟩=AA (.string dir)):
  Au Ae 72 #[.map (AA tb),.pointer (AA ⟨db,0,AB⟩)] w λe w'=>e=.returned (.tuple #[])/\∃fb,w.heap.size<=fb/\Mp w' fb IV []/\Mp w' tb IV (Dp m dir (.map (AA fb)))/\AZ [tb] w w':=by
 have hmm:= @run_makeMap Ae;have hal:AZ [] w (w.alloc (.map #[] 0)):=(AZ.refl _ _).alloc _;obtain⟨w2,hu,UG,hc2⟩:=Mp.update (hm.Ap hal BH) (Cm Kv) Iy dir (.map (AA w.heap.size));(have hne:w.heap.size≠tb:=by have:=hm.lt;omega);have HN:Hid (Mp w2 w.heap.size IV []):=AO ((Mp.made w IV).Ap hc2 (by simpa using hne));have HM:=AO UG;have HC:Hid (AZ [tb] w w2):=AO ((hal.nil [tb]).trans hc2 (λx hx=>.inl hx));clear hm UG hc2 hne hal;go_enter AOL,Tryz.ntmps72;go_wp2
 go_end0
 exact⟨rfl,_,Bd _,HN.out,HM.out,HC.out⟩
theorem ACh(tb db:Nat)(m:List (ByteArray×AQ))(dir:ByteArray)(w:AL)(hm:Mp w tb IV m)(hd:w.cell? ⟨db,0,AB⟩=AA (.string dir)):
  Au Ae 130 #[.map (AA tb),.pointer (AA ⟨db,0,AB⟩)] w λe w'=>e=.returned (.tuple #[])/\Mp w' tb IV (JA m dir)/\AZ [tb] w w':=by
 obtain⟨w2,hu,UG,hc2⟩:=Mp.del hm (ty:=0) (Cm Kv) Iy dir 9;have HM:=AO UG;have HC:=AO hc2;clear hm UG hc2;go_enter AKP,Tryz.ntmps130;go_wp2
 go_end0
 exact⟨rfl,HM.out,HC.out⟩
theorem AAV(tb fb db nb:Nat)(m f:List (ByteArray×AQ))(dir name:ByteArray)(w:AL)(hm:Mp w tb IV m)(hf:Mp w fb IV f)(hg:BJ m dir=AA (.map (AA fb)))
  (hd:w.cell? ⟨db,0,AB⟩=AA (.string dir)) (hn:w.cell? ⟨nb,0,AB⟩=AA (.string name)):
  Au Ae 129 #[.map (AA tb),.pointer (AA ⟨db,0,AB⟩),.pointer (AA ⟨nb,0,AB⟩)] w λe w'=>e=.returned (.tuple #[])/\Mp w' fb IV (JA f name)/\AZ [fb] w w':=by
 obtain⟨w2,hu,UG,hc2⟩:=Mp.del hf (ty:=0) (Cm Kv) PO name 9;have hl:=(Mp.lookup hm (Cm Kv) Iy (z:=.map AB) Az dir).1;rw[hg,Dx] at hl;have HM:=AO UG;have HC:=AO hc2;clear hm hf UG hc2 hg;go_enter AKO,Tryz.ntmps129;go_wp2
 go_end0
 exact⟨rfl,HM.out,HC.out⟩
theorem AAW(tb fb xb db nb ib:Nat)(m f:List (ByteArray×AQ))(dir name:ByteArray)(w:AL)(hm:Mp w tb IV m)(hf:Mp w fb IV f)(hg:BJ m dir=AA (.map (AA fb)))
  (hx:w.cell? ⟨xb,0,AB⟩=AA (.pointer (AA ⟨ib,0,AB⟩))) (hd:w.cell? ⟨db,0,AB⟩=AA (.string dir)) (hn:w.cell? ⟨nb,0,AB⟩=AA (.string name)):
  Au Ae 73 #[.map (AA tb),.pointer (AA ⟨xb,0,AB⟩),.pointer (AA ⟨db,0,AB⟩),.pointer (AA ⟨nb,0,AB⟩)] w λe w'=>e=.returned (.tuple #[])/\Mp w' fb IV (Dp f name (.pointer (AA ⟨ib,0,AB⟩)))/\AZ [fb] w w':=by
 obtain⟨w2,hu,UG,hc2⟩:=Mp.update hf (Cm Kv) PO name (.pointer (AA ⟨ib,0,AB⟩));have hl:=(Mp.lookup hm (Cm Kv) Iy (z:=.map AB) Az dir).1;rw[hg,Dx] at hl;have HM:=AO UG;have HC:=AO hc2;clear hm hf UG hc2 hg;go_enter AOM,Tryz.ntmps73;go_wp2
 go_end0
 exact⟨rfl,HM.out,HC.out⟩
theorem AAX(tb fb db nb:Nat)(m:List (ByteArray×AQ))(src dst:ByteArray)(w:AL)(hm:Mp w tb IV m)(hg:BJ m src=AA (.map (AA fb)))
  (hd:w.cell? ⟨db,0,AB⟩=AA (.string src)) (hn:w.cell? ⟨nb,0,AB⟩=AA (.string dst)) (_:db≠tb) (h2:nb≠tb):
  Au Ae 85 #[.map (AA tb),.pointer (AA ⟨db,0,AB⟩),.pointer (AA ⟨nb,0,AB⟩)] w λe w'=>e=.returned (.tuple #[])/\Mp w' tb IV (Dp (JA m src) dst (.map (AA fb)))/\AZ [tb] w w':=by
 have hl:=(Mp.lookup hm (Cm Kv) Iy (z:=.map AB) Az src).1;rw[hg,Dx] at hl;obtain⟨w2,hu,UG,hc2⟩:=Mp.del hm (ty:=0) (Cm Kv) Iy src 9;obtain⟨w3,hu3,ACi,hc3⟩:=Mp.update UG (Cm Kv) Iy dst (.map (AA fb));have hn2:=hc2.cell hn (by simpa using h2);have HM:=AO ACi;have HC:Hid (AZ [tb] w w3):=AO (hc2.trans hc3 (λx hx=>.inl hx));clear hm UG hc2 ACi hc3 hg;go_enter AOQ,Tryz.ntmps85;go_wp2
 go_end0
 exact⟨rfl,HM.out,HC.out⟩
theorem ACj:Ety Ae 113 119 1 8 .nilFunc:=.mk' ARZ Az rfl Aq
theorem dK(X:FuncId)(cp:Array AQ)(hcf: ∀(p:Array AQ) (w:AL),(E8 X p).run Ae w=.ok (.enter X p) w)(b tb:Nat)(sf:Option Nat)(A Aw:Option Ag)(n c nw cw:Nat)(q a:Int)(s:Nat)(xs:List AQ)(w:AL)(R:AL->Prop)(L:List Nat)
  (hcall:Au Ae X (#[.map (AA tb)]++cp) w λe w'=>e=.returned (.tuple #[])/\R w'/\AZ L w w')
  (hb:Bv w b 116 #[.map (AA tb),.map sf,.slice A n c,.slice Aw nw cw,.int .i64 q,.int .i64 a,.int .i64 (s:Int)]) (ho:Own w 119 1 A n c xs) (hbL:b∉L) (hoL: ∀x∈bo A,x∉L) (hn:n<=1073741824) (hs:s<=1073741824):
  Au Ae 71 #[.pointer (AA ⟨b,0,AB⟩),.func (.func X) #[] cp] w λe w'=>e=.returned (.int .i64 0)/\∃w1,R w1/\AZ L w w1/\AZ (b::bo A) w1 w'/\∃A' c',
   Bv w' b 116 #[.map (AA tb),.map sf,(.slice A' (n+1) c'),.slice Aw nw cw,.int .i64 q,.int .i64 a,.int .i64 ((s+1:Nat):Int)]/\Own w' 119 1 A' (n+1) c' (xs++[.func (.func X) #[] cp])/\∀x∈bo A',x∈bo A\/w1.heap.size<=x:=by
 have HC:=AO hcall;have HB:=AO hb;have HO:=AO ho;have h0:=hb.cell 0;simp at h0;(have hwt:IntKind.i64.wrap ((s:Int)+1)=((s+1:Nat):Int):=by rw[NY];omega);clear hcall hb ho;go_enter AOK,Tryz.ntmps71;(go_wp2_with fail);refine HC.out.mono ?_;rintro e w1 ⟨rfl,hr,hc1⟩;have HR:=AO hr;have CZ:=AO hc1;have hb1:=HB.out.Ap hc1 hbL;have HO1:=AO (HO.out.Ap hc1 hoL);have HB1:=AO hb1;have x2:=hb1.cell 2;simp at x2;clear hr hc1 hb1 h0;(go_wp2_with (at_builtin;refine D8 rfl _ _ rfl ACj rfl (HO1.out.Ap ((AZ.refl [] w1).alloc (.cells #[.func (.func X) #[] cp] 119)) GM) rfl (Own.lit w1 119 1 #[.func (.func X) #[] cp] 1 Aq rfl).rd (by simp[Jr]) Nb Aa ?_;intro A2 c2 w2 hown2 PR KE _;have Zr:Hid (AZ (bo A) w1 w2):=AO ((((AZ.refl [] w1).alloc (.cells #[.func (.func X) #[] cp] 119)).nil _).trans PR (λx hx=>.inl hx));have ui:b∉bo A:=(λhm=>HO1.out.Et HB1.out Aq b hm rfl);have HB2:=AO (HB1.out.Ap Zr.out ui);have y2:=HB2.out.cell 2;have f2:=HB2.out.frozen 2;have HB3:=AO (HB2.out.FH 2 (.slice A2 (n+1) c2));have y6:=HB3.out.cell 6;have f6:=HB3.out.frozen 6;simp at y2 y6;have qL:=AO hown2;have HN2:Hid (∀x∈bo A2,x∈bo A\/w1.heap.size<=x):=AO (λx hx=>(KE x hx).imp id (λh=>by have:=h.1;simp at this;omega));clear hown2 PR KE ui));go_ret;have hb2:=qL.out.Et HB2.out Aq;have hb4:=HB3.out.FH 6 (.int .i64 ((s+1:Nat):Int));refine⟨rfl,w1,HR.out,CZ.out,?_,A2,c2,?_,?_,HN2.out⟩;exact ((Zr.out.mono (λx hx=>.inl (DD _ hx))).setCell (.inl AV) _).setCell (.inl AV) _;simpa using hb4;have hcs:AZ [b] w2 ((w2.setCell ⟨b,2,AB⟩ (.slice A2 (n+1) c2)).setCell ⟨b,6,AB⟩ (.int .i64 ((s+1:Nat):Int))):=((AZ.refl _ _).setCell (.inl AV) _).setCell (.inl AV) _;have q:=qL.out.Ap hcs (λx hx hm=>hb2 x hx (by simpa using hm));simpa using q
section
variable {κ α β:Type} [DecidableEq κ]
theorem YW(f:α->β)(t:List (κ×α))(k:κ)(v:α):Dp (t.map λp=>(p.1,f p.2)) k (f v)=(Dp t k v).map λp=>(p.1,f p.2):=by
 induction t with
 |nil=>rfl|cons p r ih=>
  rw[BN,Vo,Vo,ih];by_cases h:p.1=k<;>simp[h]
theorem gy(f:α->β)(t:List (κ×α))(k:κ):JA (t.map λp=>(p.1,f p.2)) k=(JA t k).map λp=>(p.1,f p.2):=by
 induction t with
 |nil=>rfl|cons p r ih=>
  rw[BN,Zo,Zo,ih];by_cases h:p.1=k<;>simp[h]
theorem J7{t:List (κ×α)}(hn:(t.map Ac).Nodup){k:κ}{v:α}{p:κ×α}:p∈Dp t k v↔p=(k,v)\/(p∈t/\p.1≠k):=by
 rw[(Vp hn k v).mem_iff,BF];unfold without;simp
theorem PU{t:List (κ×α)}(hn:(t.map Ac).Nodup){k:κ}{p:κ×α}:p∈JA t k↔(p∈t/\p.1≠k):=by
 rw[Me hn];unfold without;simp
theorem Xo{t:List (κ×α)}(hn:(t.map Ac).Nodup)(k:κ):((JA t k).map Ac).Nodup:=by
 rw[Me hn];exact hn.sublist (List.filter_sublist.map _)
theorem Vx{t:List (κ×α)}{k:κ}{v:α}(h:BJ t k=AA v):Dp t k v=t:=by
 induction t with
 |nil=>cases h|cons p r ih=>
  rw[FX] at h;rw[Vo];by_cases hp:p.1=k
  ·rw[BU hp] at h⊢;injection h with h;rw[<- hp,<- h]
  rw[BL hp] at h⊢;rw[ih h]
end
abbrev NG:=List (ByteArray×Nat×List (ByteArray×Nat))
def EZ (tb:Nat) (g:NG):List Nat:=tb::g.map λp=>p.2.1
def ED (ib:List Nat) (i:Nat):Nat:=ib.getD i 0
structure D6 (ib:List Nat) (g:NG) (T:Tr):Prop where
 top: ∀k,(BJ g k).isSome=(BJ T k).isSome
 sub: ∀k d F,BJ g k=AA d->BJ T k=AA F->∀n,BJ d.2 n=(BJ F n).map (ED ib)
theorem PV(g:NG):(FI g).map Ac=g.map Ac:=by unfold FI;rw[En];rfl
theorem Rw(f:List (ByteArray×Nat)):(Ip f).map Ac=f.map Ac:=by unfold Ip;rw[En];rfl
theorem Tree.nodup{w:AL}{tb:Nat}{g:NG}(h:Tree w tb g):(g.map Ac).Nodup:=by rw[<- PV];exact h.top.nodup
theorem Tree.Rx{g:NG}(h:Tree w tb g)(hp:p∈g):(p.2.2.map Ac).Nodup:=by rw[<- Rw];exact (h.sub p hp).nodup
theorem Tree.lt{w:AL}{tb:Nat}{g:NG}(h:Tree w tb g): ∀x∈EZ tb g,x<w.heap.size:=by
 intro x hx;rcases BF.1 hx with rfl|hx;exact h.top.lt;obtain⟨p,hp,rfl⟩:=CG.1 hx;exact (h.sub p hp).lt
theorem Tree.keep{g:NG}(h:Tree w tb g)(hc:AZ L w w')(hn: ∀x∈EZ tb g,x∉L):Tree w' tb g:=
 h.Ap hc (hn tb (by simp[EZ])) (λp hp=>hn _ (by simp only[EZ,BF,CG];exact .inr ⟨p,hp,rfl⟩))
theorem D6.get{g:NG}(h:D6 ib g T){k:ByteArray}(hF:BJ T k=AA F): ∃d,BJ g k=AA d/\∀n,BJ d.2 n=(BJ F n).map (ED ib):=by
 have:=h.top k;rw[hF] at this
 cases hg:BJ g k with|none=>rw[hg] at this;cases this|some d=>exact⟨d,rfl,h.sub k d F hg hF⟩
theorem D6.none{ib:List Nat}{g:NG}{T:Tr}(h:D6 ib g T){k:ByteArray}(hF:BJ T k=AB):BJ g k=AB:=by
 have:=h.top k;rw[hF] at this
 cases hg:BJ g k with|none=>rfl|some d=>rw[hg] at this;cases this
theorem D6.Xm{g:NG}(h:D6 ib g T)(k n:ByteArray):((BJ g k).bind λd=>BJ d.2 n)=(BJ (FQ T k) n).map (ED ib):=by
 unfold FQ
 cases hF:BJ T k with|none=>rw[h.none hF];rfl|some F=>obtain⟨d,hd,hs⟩:=h.get hF;rw[hd];exact hs n
theorem D6.keys{g:NG}(h:D6 ib g T)(hn:(g.map Ac).Nodup)(hT:Oj T):(g.map Ac).Perm (T.map Ac):=by
 rw[AF0 hn hT.nodup];intro k;rw[<- GV,<- GV,h.top]
theorem gz(h: ∀n,BJ f n=(BJ F n).map (ED ib))(hn:(f.map Ac).Nodup)(hF:Oj F):(f.map Ac).Perm (F.map Ac):=by
 rw[AF0 hn hF.nodup];intro k;rw[<- GV,<- GV,h k];cases BJ F k<;>rfl
theorem D6.put{g:NG}(h:D6 ib g T)(hn:(g.map Ac).Nodup)(hT: ∀k,BJ T' k=if d=k then AA F else BJ T k)
  (hf: ∀n,BJ f n=(BJ F n).map (ED ib)):D6 ib (Dp g d (fb,f)) T':=by
 refine⟨λk=>?_,λk e F' he hF'=>?_⟩
 ·rw[Su hn,hT];by_cases hk:d=k;rw[BU hk,BU hk];rfl;rw[BL hk,BL hk];exact h.top k
 rw[Su hn] at he;rw[hT] at hF';by_cases hk:d=k
 ·rw[BU hk] at he hF';injection he with he;injection hF' with hF';rw[<- he,<- hF'];exact hf
 rw[BL hk] at he hF';exact h.sub k e F' he hF'
theorem D6.del{g:NG}(h:D6 ib g T)(hn:(g.map Ac).Nodup)(hT: ∀k,BJ T' k=if d=k then Option.none else BJ T k):D6 ib (JA g d) T':=by
 refine⟨λk=>?_,λk e F' he hF'=>?_⟩
 ·rw[Zq hn,hT];by_cases hk:d=k;rw[BU hk,BU hk];rfl;rw[BL hk,BL hk];exact h.top k
 rw[Zq hn] at he;rw[hT] at hF';by_cases hk:d=k;rw[BU hk] at he;cases he;rw[BL hk] at he hF';exact h.sub k e F' he hF'
theorem Tree.put{g:NG}(hn:(g.map Ac).Nodup)(hs: ∀p∈g,Mp w p.2.1 IV (Ip p.2.2))(ha:(EZ tb g).Nodup)(hc:AZ L w w')
  (htop:Mp w' tb IV (Dp (FI g) d (.map (AA fb)))) (hf:Mp w' fb IV (Ip f)) (h1:fb≠tb) (h2: ∀p∈g,p.1≠d->p.2.1≠fb) (hL: ∀p∈g,p.1≠d->p.2.1∉L):Tree w' tb (Dp g d (fb,f)):=by
 refine⟨?_,λp hp=>?_,?_⟩
 ·have:=YW (λx:Nat×List (ByteArray×Nat)=>Value.map (AA x.1)) g d (fb,f);unfold FI at htop⊢;rw[<- this];exact htop
 ·rcases (J7 hn).1 hp with rfl|⟨hp,hd⟩;exact hf;exact (hs p hp).Ap hc (hL p hp hd)
 have hp:=((Vp hn d (fb,f)).map λp=>p.2.1).cons tb;refine hp.nodup_iff.2 ?_;have ha':=IB.1 ha;rw[BN,IB,IB];have hsub:((without g d).map λp=>p.2.1).Sublist (g.map λp=>p.2.1):=List.filter_sublist.map _;refine⟨?_,?_,ha'.2.sublist hsub⟩
 ·rw[BF,not_or];exact⟨λe=>h1 e.symm,λhm=>ha'.1 (hsub.subset hm)⟩
 intro hm;obtain⟨p,hp,e⟩:=CG.1 hm;unfold without at hp;simp only[XE,decide_eq_true_eq] at hp;exact h2 p hp.1 hp.2 e
theorem Tree.del{g:NG}(h:Tree w tb g)(hc:AZ [tb] w w')(htop:Mp w' tb IV (JA (FI g) d)):Tree w' tb (JA g d):=by
 have hn:=h.nodup;refine⟨?_,λp hp=>?_,?_⟩
 ·have:=gy (λx:Nat×List (ByteArray×Nat)=>Value.map (AA x.1)) g d;unfold FI at htop⊢;rw[<- this];exact htop
 ·have hp:=((PU hn).1 hp).1;refine (h.sub p hp).Ap hc ?_;have:=(IB.1 h.apart).1;intro e;simp only[CB] at e;exact this (CG.2 ⟨p,hp,e⟩)
 rw[Me hn];have hsub:((without g d).map λp=>p.2.1).Sublist (g.map λp=>p.2.1):=List.filter_sublist.map _;exact h.apart.sublist (hsub.cons_cons tb)
theorem Tree.Lp{g:NG}(h:Tree w tb g)(hp:p∈g):p.2.1≠tb:=λe=>(IB.1 h.apart).1 (CG.2 ⟨p,hp,e⟩)
theorem AFH{α β:Type}{l:List α}{f:α->β}(hn:(l.map f).Nodup){a b:α}(ha:a∈l)(hb:b∈l)(h:f a=f b):a=b:=by
 induction l with
 |nil=>simp at ha|cons x r ih=>
  rw[BN,IB] at hn;rcases BF.1 ha with ha1|ha1
  ·rcases BF.1 hb with hb1|hb1;rw[ha1,hb1];exact (hn.1 (CG.2 ⟨b,hb1,by rw[<- h,ha1]⟩)).elim
  rcases BF.1 hb with hb1|hb1;exact (hn.1 (CG.2 ⟨a,ha1,by rw[h,hb1]⟩)).elim;exact ih hn.2 ha1 hb1
theorem Tree.lq{g:NG}(h:Tree w tb g){q:ByteArray×Nat×List (ByteArray×Nat)}(hp:p∈g)(hq:q∈g)(hne:p.1≠q.1):p.2.1≠q.2.1:=by
 intro e;have:=AFH (IB.1 h.apart).2 hp hq e;exact hne (by rw[this])
def TA (w:AL) (tb:Nat) (g:NG) (ib:List Nat) (T':Tr) (w':AL):Prop:=
 (∃g',Tree w' tb g'/\D6 ib g' T'/\∀x∈EZ tb g',x∈EZ tb g\/w.heap.size<=x)/\AZ (EZ tb g) w w'
section
variable {w:AL} {tb:Nat} {g:NG} {ib:List Nat} {T:Tr} {m:Nat}
theorem OA(hn:(g.map Ac).Nodup)(h:fb∈EZ tb g\/B<=fb): ∀x∈EZ tb (Dp g d (fb,f)),x∈EZ tb g\/B<=x:=by
 intro x hx;unfold EZ at hx h⊢;rcases BF.1 hx with rfl|hx;left;simp;obtain⟨p,hp,rfl⟩:=CG.1 hx;rcases (J7 hn).1 hp with rfl|⟨hp,hd⟩;exact h;left;exact DD _ (CG.2 ⟨p,hp,rfl⟩)
theorem JW(hp:p∈g):p.2.1∈EZ tb g:=DD _ (CG.2 ⟨p,hp,rfl⟩)
theorem xC(ht:Tree w tb g)(hi:D6 ib g T)(hd:BJ T d=AB)(hk:w.cell? ⟨k,0,AB⟩=AA (.string d)):
  Au Ae 72 #[.map (AA tb),.pointer (AA ⟨k,0,AB⟩)] w λe w'=>e=.returned (.tuple #[])/\TA w tb g ib (EN.on T (.Cb d)) w':=by
 refine (ACg tb k (FI g) d w ht.top hk).mono ?_;rintro e w' ⟨rfl,fb,hge,hfb,htop,hc⟩;(have h2: ∀p∈g,p.2.1≠fb:=λp hp e=>by have:=(ht.sub p hp).lt;omega);have htl:=ht.top.lt
 refine⟨rfl,⟨Dp g d (fb,[]),Tree.put ht.nodup ht.sub ht.apart hc htop (by simpa[Ip] using hfb) Aa (λp hp _=>h2 p hp) (λp hp _=>by simpa using ht.Lp hp),
  hi.put ht.nodup (λk=>Qc (Ey.1 hd) _ k) (λn=>rfl),OA ht.nodup (.inr hge)⟩,hc.mono (by simp[EZ])⟩
theorem xE(ht:Tree w tb g)(hi:D6 ib g T)(hk:w.cell? ⟨k,0,AB⟩=AA (.string d)):
  Au Ae 130 #[.map (AA tb),.pointer (AA ⟨k,0,AB⟩)] w λe w'=>e=.returned (.tuple #[])/\TA w tb g ib (EN.on T (.rmdir d)) w':=by
 refine (ACh tb k (FI g) d w ht.top hk).mono ?_;rintro e w' ⟨rfl,htop,hc⟩;refine⟨rfl,⟨JA g d,ht.del hc htop,hi.del ht.nodup (λk=>ND T d k),λx hx=>.inl ?_⟩,hc.mono (by simp[EZ])⟩;rcases BF.1 hx with rfl|hx;simp[EZ];obtain⟨p,hp,rfl⟩:=CG.1 hx;exact JW ((PU ht.nodup).1 hp).1
theorem FT(h:BJ T d=AA F):FQ T d=F:=by unfold FQ;rw[h];rfl
theorem TB(k:ByteArray):BJ (Di d F (without T d)) k=if d=k then AA F else BJ T k:=by
 rw[Qc (Jm d),ND];by_cases h:d=k<;>simp[h]
theorem qM(ht:Tree w tb g)(hi:D6 ib g T)(_:Val m T)(hok:EN.ok m T (.create d n i))(hx:w.cell? ⟨x,0,AB⟩=AA (.pointer (AA ⟨ED ib i,0,AB⟩)))
  (hk:w.cell? ⟨k,0,AB⟩=AA (.string d)) (hj:w.cell? ⟨j,0,AB⟩=AA (.string n)):
  Au Ae 73 #[.map (AA tb),.pointer (AA ⟨x,0,AB⟩),.pointer (AA ⟨k,0,AB⟩),.pointer (AA ⟨j,0,AB⟩)] w λe w'=>e=.returned (.tuple #[])/\TA w tb g ib (EN.on T (.create d n i)) w':=by
 obtain⟨_,_,F,hF,hnone⟩:=hok;obtain⟨e,he,hs⟩:=hi.get hF;have hmem:=CQ he;refine (AAW tb e.1 x k j (ED ib i) (FI g) (Ip e.2) d n w ht.top (ht.sub _ hmem) (by rw[Ez,he];rfl) hx hk hj).mono ?_;rintro r w' ⟨rfl,hfb,hc⟩;have hfv:Dp (Ip e.2) n (.pointer (AA ⟨ED ib i,0,AB⟩))=Ip (Dp e.2 n (ED ib i)):=YW (λi:Nat=>QL (AA ⟨i,0,AB⟩)) e.2 n (ED ib i);rw[hfv] at hfb;have hL: ∀p∈g,p.1≠d->p.2.1∉[e.1]:=λp hp hne=>by simpa using ht.lq hp hmem hne
 have htop:Mp w' tb IV (Dp (FI g) d (.map (AA e.1))):=by
  rw[Vx (by rw[Ez,he];rfl)];exact ht.top.Ap hc (by simpa using (ht.Lp hmem).symm)
 refine⟨rfl,⟨Dp g d (e.1,Dp e.2 n (ED ib i)),Tree.put ht.nodup ht.sub ht.apart hc htop hfb (ht.Lp hmem) (λp hp hne=>by simpa using hL p hp hne) hL,?_,OA ht.nodup (.inl (JW hmem))⟩,hc.mono (λy hy=>.inl (by simp only[CB] at hy;subst hy;exact JW hmem))⟩;refine hi.put ht.nodup (λk=>TB k) (λn'=>?_);rw[FT hF,Su (ht.Rx hmem),Qc (Ey.1 hnone),hs n'];by_cases hnn:n=n'<;>simp[hnn]
theorem qN(ht:Tree w tb g)(hi:D6 ib g T)(_:Val m T)(hok:EN.ok m T (.remove d n))
  (hk:w.cell? ⟨k,0,AB⟩=AA (.string d)) (hj:w.cell? ⟨j,0,AB⟩=AA (.string n)):
  Au Ae 129 #[.map (AA tb),.pointer (AA ⟨k,0,AB⟩),.pointer (AA ⟨j,0,AB⟩)] w λe w'=>e=.returned (.tuple #[])/\TA w tb g ib (EN.on T (.remove d n)) w':=by
 obtain⟨F,hF⟩:=hok;obtain⟨e,he,hs⟩:=hi.get hF;have hmem:=CQ he;refine (AAV tb e.1 k j (FI g) (Ip e.2) d n w ht.top (ht.sub _ hmem) (by rw[Ez,he];rfl) hk hj).mono ?_;rintro r w' ⟨rfl,hfb,hc⟩;have hfv:JA (Ip e.2) n=Ip (JA e.2 n):=gy (λi:Nat=>QL (AA ⟨i,0,AB⟩)) e.2 n;rw[hfv] at hfb;have hL: ∀p∈g,p.1≠d->p.2.1∉[e.1]:=λp hp hne=>by simpa using ht.lq hp hmem hne
 have htop:Mp w' tb IV (Dp (FI g) d (.map (AA e.1))):=by
  rw[Vx (by rw[Ez,he];rfl)];exact ht.top.Ap hc (by simpa using (ht.Lp hmem).symm)
 refine⟨rfl,⟨Dp g d (e.1,JA e.2 n),Tree.put ht.nodup ht.sub ht.apart hc htop hfb (ht.Lp hmem) (λp hp hne=>by simpa using hL p hp hne) hL,?_,OA ht.nodup (.inl (JW hmem))⟩,hc.mono (λy hy=>.inl (by simp only[CB] at hy;subst hy;exact JW hmem))⟩;refine hi.put ht.nodup (λk=>TB k) (λn'=>?_);rw[FT hF,Zq (ht.Rx hmem),ND,hs n'];by_cases hnn:n=n'<;>simp[hnn]
theorem qO{a b:ByteArray}(ht:Tree w tb g)(hi:D6 ib g T)(hok:EN.ok m T (.rename a b))
  (hk:w.cell? ⟨k,0,AB⟩=AA (.string a)) (hj:w.cell? ⟨j,0,AB⟩=AA (.string b)) (h1:k≠tb) (h2:j≠tb):
  Au Ae 85 #[.map (AA tb),.pointer (AA ⟨k,0,AB⟩),.pointer (AA ⟨j,0,AB⟩)] w λe w'=>e=.returned (.tuple #[])/\TA w tb g ib (EN.on T (.rename a b)) w':=by
 obtain⟨_,F,hF⟩:=hok;obtain⟨e,he,hs⟩:=hi.get hF;have hmem:=CQ he;refine (AAX tb e.1 k j (FI g) a b w ht.top (by rw[Ez,he];rfl) hk hj h1 h2).mono ?_;rintro r w' ⟨rfl,htop,hc⟩;have hdm:JA (FI g) a=FI (JA g a):=gy (λx:Nat×List (ByteArray×Nat)=>Value.map (AA x.1)) g a;rw[hdm] at htop;have hn:=ht.nodup;have hnt: ∀p∈JA g a,p.2.1∉[tb]:=λp hp=>by simpa using ht.Lp ((PU hn).1 hp).1
 have hap:(EZ tb (JA g a)).Nodup:=by
  rw[Me hn];have hsub:((without g a).map λp=>p.2.1).Sublist (g.map λp=>p.2.1):=List.filter_sublist.map _;exact ht.apart.sublist (hsub.cons_cons tb)
 refine⟨rfl,⟨Dp (JA g a) b (e.1,e.2),Tree.put (Xo hn a) (λp hp=>ht.sub p ((PU hn).1 hp).1) hap hc htop ((ht.sub _ hmem).Ap hc (by simpa using ht.Lp hmem)) (ht.Lp hmem)
  (λp hp _=>ht.lq ((PU hn).1 hp).1 hmem ((PU hn).1 hp).2) (λp hp _=>hnt p hp),?_,λx hx=>.inl ?_⟩,hc.mono (by simp[EZ])⟩
 ·refine D6.put (T:=without T a) (F:=F) (hi.del hn (λk=>ND T a k)) (Xo hn a) (λk=>?_) hs;simp only[EN.on,FT hF];exact TB k
 rcases BF.1 hx with rfl|hx;simp[EZ];obtain⟨p,hp,rfl⟩:=CG.1 hx;rcases (J7 (Xo hn a)).1 hp with rfl|⟨hp,_⟩;exact JW (p:=(a,e)) hmem;exact JW ((PU hn).1 hp).1
end
def Sep (Ps:List (List Nat)):Prop:=Ps.Pairwise λa b=>∀x∈a,x∉b
structure Lay (w:AL) (Ps:List (List Nat)):Prop where
 sep:Sep Ps
 lt: ∀P∈Ps,∀x∈P,x<w.heap.size
theorem Sep.ne{Ps:List (List Nat)}(h:Sep Ps){Q:List Nat}(hi:Ps[i]? =AA P)(hj:Ps[j]? =AA Q)(hij:i≠j): ∀x∈P,x∉Q:=by
 have hil:=(CP.1 hi);have hjl:=(CP.1 hj);obtain⟨hi1,rfl⟩:=hil;obtain⟨hj1,rfl⟩:=hjl;intro x hx hq;rcases Nat.lt_or_gt_of_ne hij with h1|h1;exact (YG.1 h i j hi1 hj1 h1) x hx hq;exact (YG.1 h j i hj1 hi1 h1) x hq hx
theorem Lay.ne{w:AL}{Ps:List (List Nat)}(h:Lay w Ps){i j:Nat}{P Q:List Nat}(hi:Ps[i]? =AA P)(hj:Ps[j]? =AA Q)(hij:i≠j): ∀x∈P,x∉Q:=h.sep.ne hi hj hij
theorem Lay.mono{Ps:List (List Nat)}(h:Lay w Ps)(hs:w.heap.size<=w'.heap.size):Lay w' Ps:=⟨h.sep,λP hP x hx=>Em (h.lt P hP x hx) hs⟩
theorem Lay.FH{Ps:List (List Nat)}(h:Lay w Ps){P':List Nat}(hi:Ps[i]? =AA P)(hn: ∀x∈P',x∈P\/w.heap.size<=x)(hl: ∀x∈P',x<w'.heap.size)(hs:w.heap.size<=w'.heap.size):Lay w' (Ps.set i P'):=by
 have hil:i<Ps.length:=(CP.1 hi).1;refine⟨?_,λQ hQ x hx=>?_⟩
 ·unfold Sep;rw[YG];intro a b ha hb hab;(have ha':a<Ps.length:=by simpa using ha);(have hb':b<Ps.length:=by simpa using hb);have hlt: ∀(c:Nat) (hc:c<Ps.length),∀x∈Ps[c],x<w.heap.size:=λc hc x hx=>h.lt _ (List.getElem_mem hc) x hx;rw[List.getElem_set,List.getElem_set];intro x hx hxb;by_cases h1:i=a
  ·rw[BU h1] at hx;rw[BL Aa] at hxb;rcases hn x hx with h2|h2
   ·exact h.ne hi (Bo hb') Aa x h2 hxb
   have:=hlt b hb' x hxb;omega
  rw[BL h1] at hx;by_cases h3:i=b
  ·rw[BU h3] at hxb;rcases hn x hxb with h2|h2
   ·exact h.ne hi (Bo ha') Aa x h2 hx
   have:=hlt a ha' x hx;omega
  rw[BL h3] at hxb;exact (YG.1 h.sep a b ha' hb' hab) x hx hxb
 rcases lL hQ with h1|rfl;exact Em (h.lt Q h1 x hx) hs;exact hl x hx
theorem Lay.snoc{Ps:List (List Nat)}(h:Lay w Ps)(hn: ∀x∈P,w.heap.size<=x)(hl: ∀x∈P,x<w'.heap.size)(hs:w.heap.size<=w'.heap.size):Lay w' (Ps++[P]):=by
 refine⟨?_,λQ hQ x hx=>?_⟩
 ·unfold Sep;rw[aZ];refine⟨h.sep,AV,λQ hQ R hR x hx hr=>?_⟩;simp only[CB] at hR;subst hR;have h1:=hn x hr;have h2:=h.lt Q hQ x hx;omega
 rcases Bj.1 hQ with h1|h1;exact Em (h.lt Q h1 x hx) hs;simp only[CB] at h1;subst h1;exact hl x hx
def ACk (w:AL) (ib K:List Nat):EN->AQ->Prop
 | .Cb d,v=>∃k,v=.func (.func 72) #[] #[.pointer (AA ⟨k,0,AB⟩)]/\k∈K/\w.cell? ⟨k,0,AB⟩=AA (.string d)| .rmdir d,v=>∃k,v=.func (.func 130) #[] #[.pointer (AA ⟨k,0,AB⟩)]/\k∈K/\w.cell? ⟨k,0,AB⟩=AA (.string d)
 | .create d n i,v=>∃x k j,v=.func (.func 73) #[] #[.pointer (AA ⟨x,0,AB⟩),.pointer (AA ⟨k,0,AB⟩),.pointer (AA ⟨j,0,AB⟩)]/\x∈K/\k∈K/\j∈K/\
   w.cell? ⟨x,0,AB⟩=AA (.pointer (AA ⟨ED ib i,0,AB⟩))/\w.cell? ⟨k,0,AB⟩=AA (.string d)/\w.cell? ⟨j,0,AB⟩=AA (.string n)/\i<ib.length
 | .remove d n,v=>∃k j,v=.func (.func 129) #[] #[.pointer (AA ⟨k,0,AB⟩),.pointer (AA ⟨j,0,AB⟩)]/\k∈K/\j∈K/\w.cell? ⟨k,0,AB⟩=AA (.string d)/\w.cell? ⟨j,0,AB⟩=AA (.string n)| .rename d n,v=>∃k j,v=.func (.func 85) #[] #[.pointer (AA ⟨k,0,AB⟩),.pointer (AA ⟨j,0,AB⟩)]/\k∈K/\j∈K/\w.cell? ⟨k,0,AB⟩=AA (.string d)/\w.cell? ⟨j,0,AB⟩=AA (.string n)
theorem ACk.keep{ib' K K':List Nat}{v:AQ}(h:ACk w ib K c v)(hc:AZ L w w')(hL: ∀x∈K,x∉L)(hK: ∀x∈K,x∈K')(hib: ∀i<ib.length,ED ib' i=ED ib i)(hl:ib.length<=ib'.length):ACk w' ib' K' c v:=by
 cases c with
 |Cb d=>obtain⟨k,h1,h2,h3⟩:=h;exact⟨k,h1,hK k h2,hc.cell h3 (hL k h2)⟩
 |rmdir d=>obtain⟨k,h1,h2,h3⟩:=h;exact⟨k,h1,hK k h2,hc.cell h3 (hL k h2)⟩
 |create d n i=>
  obtain⟨x,k,j,h1,h2,h3,h4,h5,h6,h7,h8⟩:=h;exact⟨x,k,j,h1,hK x h2,hK k h3,hK j h4,by rw[hib i h8];exact hc.cell h5 (hL x h2),hc.cell h6 (hL k h3),hc.cell h7 (hL j h4),Aa⟩
 |remove d n=>obtain⟨k,j,h1,h2,h3,h4,h5⟩:=h;exact⟨k,j,h1,hK k h2,hK j h3,hc.cell h4 (hL k h2),hc.cell h5 (hL j h3)⟩
 |rename d n=>obtain⟨k,j,h1,h2,h3,h4,h5⟩:=h;exact⟨k,j,h1,hK k h2,hK j h3,hc.cell h4 (hL k h2),hc.cell h5 (hL j h3)⟩
structure Bh where
 b:Nat
 t1:Nat
 t2:Nat
 g1:NG
 g2:NG
 A:Option Ag
 c:Nat
 vs:List AQ
 Aw:Option Ag
 cw:Nat
 K:List Nat
 ib:List Nat
 sg:List Nat
 Ls:List (List Nat)
def Bh.parts (G:Bh):List (List Nat):=[G.b]::EZ G.t1 G.g1::EZ G.t2 G.g2::bo G.A::bo G.Aw::G.K::G.Ls
def Bh.all (G:Bh):List Nat:=G.parts.flatten
def qP (ib:List Nat) (i:Nat):AQ:=.pointer (AA ⟨ED ib i,0,AB⟩)
def xG (w:AL) (x g:Nat) (L:List Nat) (f:FY):Prop:=Bv w x 126 #[.pointer (AA ⟨g,0,AB⟩)]/\Wj w g L f.1 f.2
structure EJ (w:AL) (G:Bh) (S:St):Prop where
 blk:Bv w G.b 116 #[.map (AA G.t1),.map (AA G.t2),.slice G.A S.EW.length G.c,.slice G.Aw S.wr.length G.cw,.int .i64 S.BK,.int .i64 S.stop,.int .i64 (S.steps:Int)]
 Ff:Tree w G.t1 G.g1
 Lt:D6 G.ib G.g1 S.seen
 tr2:Tree w G.t2 G.g2
 is2:D6 G.ib G.g2 S.safe
 own:Own w 119 1 G.A S.EW.length G.c G.vs
 chn: ∀(i:Nat) (c:EN) (v:AQ),S.EW[i]? =AA c->G.vs[i]? =AA v->ACk w G.ib G.K c v
 kY:Own w 121 1 G.Aw S.wr.length G.cw (S.wr.map (qP G.ib))
 Qo:G.ib.length=S.files.length
 Yv:G.sg.length=S.files.length
 Yw:G.Ls.length=S.files.length
 Zt:G.ib.Nodup
 Wn: ∀x∈G.ib,x∈G.K
 ino: ∀(i x g:Nat) (L:List Nat) (f:FY),G.ib[i]? =AA x->G.sg[i]? =AA g->G.Ls[i]? =AA L->S.files[i]? =AA f->xG w x g L f
 lay:Lay w G.parts
theorem EJ.vsl{G:Bh}(h:EJ w G S):G.vs.length=S.EW.length:=by have:=h.own.1;omega
theorem Bh.Fg{G:Bh}(hi:G.parts[i]? =AA P)(hx:x∈P):x∈G.all:=OL.2 ⟨P,Bi hi,hx⟩
theorem xG.keep{g:Nat}{M:List Nat}{f:FY}(h:xG w x g L f)(hc:AZ M w w')(h1:x∉M)(h2: ∀k∈L,k∉M):xG w' x g L f:=
 ⟨h.1.Ap hc h1,h.2.Ap hc h2⟩
theorem EJ.at_{G:Bh}(h:EJ w G S){f:FY}(hf:S.files[i]? =AA f): ∃x g L,G.ib[i]? =AA x/\G.sg[i]? =AA g/\G.Ls[i]? =AA L/\xG w x g L f:=by
 have hl:=(CP.1 hf).1;have h1:=h.Qo;have h2:=h.Yv;have h3:=h.Yw;exact⟨_,_,_,Bo Aa,Bo Aa,Bo Aa,h.ino i _ _ _ f (Bo Aa) (Bo Aa) (Bo Aa) hf⟩
theorem EJ.lt{w:AL}{G:Bh}{S:St}(h:EJ w G S): ∀x∈G.all,x<w.heap.size:=by
 intro x hx;obtain⟨P,hP,hx⟩:=OL.1 hx;exact h.lay.lt P hP x hx
theorem EJ.keep{w w':AL}{G:Bh}{S:St}{L:List Nat}(h:EJ w G S)(hc:AZ L w w')(hn: ∀x∈G.all,x∉L):EJ w' G S:=by
 have hm: ∀(i:Nat) (P:List Nat),G.parts[i]? =AA P->∀x∈P,x∉L:=λi P hi x hx=>hn x (Bh.Fg hi hx)
 refine⟨h.blk.Ap hc (hm 0 _ rfl _ AV),h.Ff.keep hc (hm 1 _ rfl),h.Lt,h.tr2.keep hc (hm 2 _ rfl),h.is2,h.own.Ap hc (hm 3 _ rfl),λi c v h1 h2=>(h.chn i c v h1 h2).keep hc (hm 5 _ rfl) (λ_ h=>h) (λ_ _=>rfl) (Bd _),
  h.kY.Ap hc (hm 4 _ rfl),h.Qo,h.Yv,h.Yw,h.Zt,h.Wn,λi x g M f h1 h2 h3 h4=>(h.ino i x g M f h1 h2 h3 h4).keep hc (hm 5 _ rfl x (h.Wn x (Bi h1))) (hm (i+6) M (by simpa[Bh.parts] using h3)),h.lay.mono hc.size⟩
theorem EJ.Cc{G:Bh}(h:EJ w G S)(hc:AZ [] w w'):EJ w' G S:=h.keep hc GM
def DK (w:AL) (G:Bh) (S':St) (w':AL):Prop:=∃G',EJ w' G' S'/\G'.b=G.b/\(∀x∈G'.all,x∈G.all\/w.heap.size<=x)/\AZ G.all w w'
theorem DK.same{G:Bh}(h:EJ w G S)(hc:AZ [] w w'):DK w G S w':=⟨G,h.Cc hc,rfl,λ_ hx=>.inl hx,hc.nil _⟩
theorem AGj{G:Bh}(h:EJ w G S)(there:Bool)(ns:List ByteArray):Qb S.stop S.steps (FI G.g1) there ns=S.ask there ns:=by
 have: ∀k,(BJ (FI G.g1) k).isNone=(BJ S.seen k).isNone:=λk=>by
  have:=h.Lt.top k;rw[Ez];cases h1:BJ G.g1 k<;>cases h2:BJ S.seen k<;>rw[h1,h2] at this<;>first|rfl|cases this
 unfold Qb St.ask St.down;rw[this]
theorem find_eq{G:Bh}(h:EJ w G S)(d n:ByteArray):Vu S.stop S.steps G.g1 d n=((S.Om d n).1.map (ED G.ib),(S.Om d n).2):=by
 unfold Vu St.Om;rw[AGj h];split;rfl;rw[h.Lt.Xm d n];cases BJ (FQ S.seen d) n<;>rfl
theorem Vy{G:Bh}(h:EJ w G S)(there:Bool)(A:Option Ag)(n c:Nat)(ns:List ByteArray)(hr:Rd w 1 A n c (OB ns))(hn:n<=1073741824)(ht:there=true->0<n):
  Au Ae 70 #[.pointer (AA ⟨G.b,0,AB⟩),.bool there,.slice A n c] w λe w'=>e=.returned (.int .i64 (S.ask there ns))/\AZ [] w w':=by
 rw[<- AGj h];exact ACf G.b G.t1 S.stop S.steps (FI G.g1) there A n c ns w (by simpa using h.blk.cell 0) (by simpa using h.blk.cell 5) (by simpa using h.blk.cell 6) h.Ff.top qJ hr hn ht
theorem qQ{G:Bh}(h:EJ w G S)(d n:ByteArray):
  Au Ae 81 #[.pointer (AA ⟨G.b,0,AB⟩),.string d,.string n] w λe w'=>e=.returned (Xl ((S.Om d n).1.map (ED G.ib),(S.Om d n).2))/\AZ [] w w':=by
 rw[<- find_eq h];exact AHy G.b G.t1 S.stop S.steps G.g1 d n w (by simpa using h.blk.cell 0) (by simpa using h.blk.cell 5) (by simpa using h.blk.cell 6) h.Ff
theorem ACl{G:Bh}(h:EJ w G S):
  Au Ae 61 #[.pointer (AA ⟨G.b,0,AB⟩)] w λe w'=>e=.returned (.bool S.down)/\AZ [] w w':=
 xB G.b S.stop S.steps w (by simpa using h.blk.cell 5) (by simpa using h.blk.cell 6)
theorem EJ.xH{G:Bh}(h:EJ w G S)(hc:AZ [] w w1)(hx:w.heap.size<=x)(hx1:x<w1.heap.size):EJ w1 {G with K:=x::G.K} S:=by
 have h1:=h.Cc hc;refine⟨h1.blk,h1.Ff,h1.Lt,h1.tr2,h1.is2,h1.own,λi c v a b=>(h1.chn i c v a b).keep (AZ.refl [] w1) GM (λ_ hm=>DD _ hm) (λ_ _=>rfl) (Bd _),h1.kY,h1.Qo,h1.Yv,h1.Yw,h1.Zt,λy hy=>DD _ (h1.Wn y hy),h1.ino,?_⟩
 exact h.lay.FH (i:=5) (P':=x::G.K) rfl (λy hy=>by rcases BF.1 hy with rfl|hy;exact .inr hx;exact .inl hy) (λy hy=>by
  rcases BF.1 hy with rfl|hy;exact hx1
  exact h1.lay.lt G.K (Bi (i:=5) rfl) y hy) hc.size
theorem dL(hi:i<ib.length):ED (ib++[x]) i=ED ib i:=by
 unfold ED;rw[Gj,Gj,O6 hi]
theorem ACm(ib:List Nat)(x:Nat):ED (ib++[x]) ib.length=x:=by
 unfold ED;rw[Gj,Ig (Bd _)];simp
theorem AAY(h:ib[i]? =AA x):ED ib i=x:=by
 unfold ED;rw[Gj,h];rfl
theorem D6.grow{g:NG}{m:Nat}(h:D6 ib g T)(hv:Val m T)(hm:ib.length=m):D6 (ib++[x]) g T:=
 ⟨h.top,λk d F hd hF n=>by
  rw[h.sub k d F hd hF n]
  cases hn:BJ F n with
  |none=>rfl|some i=>
   have:=hv.ids _ (CQ hF) _ (CQ hn);simp only[Fj]
   rw[dL (by simpa[hm] using this)]⟩
theorem EJ.dN{w2:AL}{G:Bh}(h:EJ w G S)(hi:Inv B S)(hc1:AZ [] w w1){g:Nat}{f:List Int}(hL: ∀k∈L,w.heap.size<=k)(hs:Wj w1 g L f [])(hc2:AZ [] w1 w2)
  {x:Nat} (hx:w1.heap.size<=x) (hb:Bv w2 x 126 #[.pointer (AA ⟨g,0,AB⟩)]):
  EJ w2 {G with K:=x::G.K,ib:=G.ib++[x],sg:=G.sg++[g],Ls:=G.Ls++[L]} {S with files:=S.files++[(f,[])]}:=by
 have h2:=h.Cc (hc1.Ah hc2);have hxl:=hb.lt;refine⟨h2.blk,h2.Ff,h2.Lt.grow hi.val h.Qo,h2.tr2,h2.is2.grow hi.safe h.Qo,h2.own,λi c v a b=>(h2.chn i c v a b).keep (AZ.refl [] w2) GM (λ_ hm=>DD _ hm) (λi hi=>dL hi) AV,?_,by simp[h.Qo],by simp[h.Yv],by simp[h.Yw],?_,?_,?_,?_⟩
 ·have e:S.wr.map (qP (G.ib++[x]))=S.wr.map (qP G.ib):=Hm λi hm=>by
   unfold qP;rw[dL (by rw[h.Qo];exact hi.wr i hm)]
  show Own w2 121 1 G.Aw S.wr.length G.cw (S.wr.map (qP (G.ib++[x])));rw[e];exact h2.kY
 ·show (G.ib++[x]).Nodup;rw[OH];refine⟨h.Zt,AV,λa ha b hb=>?_⟩;simp only[CB] at hb;subst hb;have:=h.lay.lt G.K (Bi (i:=5) rfl) a (h.Wn a ha);have:=hc1.size;omega
 ·intro y hy;rcases Bj.1 hy with hy|hy;exact DD _ (h.Wn y hy);simp only[CB] at hy;subst hy;simp
 ·intro i y gg M ff e1 e2 e3 e4;have l1:=h.Qo;have l2:=h.Yv;have l3:=h.Yw;by_cases hil:i<S.files.length
  ·simp only at e1 e2 e3 e4;rw[O6 Aa] at e1 e2 e3 e4;exact h2.ino i y gg M ff e1 e2 e3 e4
  have hie:i=S.files.length:=by
   have:=(CP.1 e4).1;simp at this;omega
  subst hie;simp only at e1 e2 e3 e4;rw[Ig Aa,l1,NM] at e1;rw[Ig Aa,l2,NM] at e2;rw[Ig Aa,l3,NM] at e3;rw[Ig Aa,NM] at e4;simp at e1 e2 e3 e4;subst e1;subst e2;subst e3;subst e4;exact⟨hb,hs.Ap hc2 GM⟩
 have h3:=h.lay.snoc (w':=w1) hL hs.lt hc1.size
 have h4:=h3.FH (w':=w2) (i:=5) (P:=G.K) (P':=x::G.K) rfl (λy hy=>by rcases BF.1 hy with rfl|hy;exact .inr hx;exact .inl hy) (λy hy=>by
  rcases BF.1 hy with rfl|hy;exact hxl
  exact h2.lay.lt G.K (Bi (i:=5) rfl) y hy) hc2.size
 exact h4
theorem EJ.did{G:Bh}{v:AQ}{A':Option Ag}{c':Nat}(h:EJ w G S)(hv:ACk w G.ib G.K c v)(hcl:TA w G.t1 G.g1 G.ib (c.on S.seen) w1)(hc1:AZ (G.b::bo G.A) w1 w')
  (hb:Bv w' G.b 116 #[.map (AA G.t1),.map (AA G.t2),.slice A' (S.EW.length+1) c',.slice G.Aw S.wr.length G.cw,.int .i64 S.BK,.int .i64 S.stop,.int .i64 ((S.steps+1:Nat):Int)])
  (ho:Own w' 119 1 A' (S.EW.length+1) c' (G.vs++[v])) (hA: ∀x∈bo A',x∈bo G.A\/w1.heap.size<=x):DK w G (S.make c) w':=by
 obtain⟨⟨g',ht',hi',hsub⟩,hct⟩:=hcl;have hm: ∀(i:Nat) (P:List Nat),G.parts[i]? =AA P->i≠1->∀x∈P,x∉EZ G.t1 G.g1:=λi P hi hne x hx=>h.lay.ne hi (j:=1) rfl hne x hx
 have hm2: ∀(i:Nat) (P:List Nat),G.parts[i]? =AA P->i≠0->i≠3->∀x∈P,x∉G.b::bo G.A:=λi P hi h0 h3 x hx hmem=>by
  rcases BF.1 hmem with rfl|hmem;exact h.lay.ne hi (j:=0) rfl h0 _ hx AV;exact h.lay.ne hi (j:=3) rfl h3 x hx hmem
 have k1: ∀(i:Nat) (P:List Nat),G.parts[i]? =AA P->i≠0->i≠3->i≠1->∀x∈P,x∉EZ G.t1 G.g1++(G.b::bo G.A):=λi P hi h0 h3 h1 x hx hmem=>by
  rcases Bj.1 hmem with hmem|hmem;exact hm i P hi h1 x hx hmem;exact hm2 i P hi h0 h3 x hx hmem
 have hcc:AZ (EZ G.t1 G.g1++(G.b::bo G.A)) w w':=(hct.mono (λx hx=>.inl (F5 _ hx))).trans hc1 (λx hx=>.inl (GN _ hx));have AFI:=h.lay.FH (w':=w1) (i:=1) (P':=EZ G.t1 g') rfl hsub ht'.lt hct.size;have ASN:=AFI.FH (w':=w') (i:=3) (P:=bo G.A) (P':=bo A') rfl hA ho.lt hc1.size
 have htn: ∀x∈EZ G.t1 g',x∉G.b::bo G.A:=λx hx hmem=>by
  rcases BF.1 hmem with rfl|hmem
  ·exact AFI.ne (i:=1) (j:=0) (P:=EZ G.t1 g') (Q:=[G.b]) rfl rfl Aq _ hx AV
  exact AFI.ne (i:=1) (j:=3) (P:=EZ G.t1 g') (Q:=bo G.A) rfl rfl Aq x hx hmem
 refine⟨{G with g1:=g',A:=A',c:=c',vs:=G.vs++[v]},⟨?_,ht'.keep hc1 htn,hi',h.tr2.keep hcc (k1 2 _ rfl Aq Aq Aq),h.is2,?_,?_,h.kY.Ap hcc (k1 4 _ rfl Aq Aq Aq),h.Qo,h.Yv,h.Yw,h.Zt,h.Wn,?_,ASN⟩,rfl,?_,?_⟩;simpa[St.make] using hb;simpa[St.make] using ho
 ·intro i c0 v0 e1 e2;have hvl:=h.vsl;have hK: ∀x∈G.K,x∉EZ G.t1 G.g1++(G.b::bo G.A):=k1 5 _ rfl Aq Aq Aq;simp only[St.make] at e1 e2;by_cases hil:i<S.EW.length
  ·rw[O6 Aa] at e1 e2;exact (h.chn i c0 v0 e1 e2).keep hcc hK (λ_ h=>h) (λ_ _=>rfl) (Bd _)
  have hie:i=S.EW.length:=by
   have:=(CP.1 e1).1;simp at this;omega
  subst hie;rw[Ig (Bd _),NM] at e1;rw[Ig Aa,hvl,NM] at e2;simp at e1 e2;subst e1;subst e2;exact hv.keep hcc hK (λ_ h=>h) (λ_ _=>rfl) (Bd _)
 ·intro i x g L f e1 e2 e3 e4;exact (h.ino i x g L f e1 e2 e3 e4).keep hcc (k1 5 _ rfl Aq Aq Aq x (h.Wn x (Bi e1))) (k1 (i+6) L (by simpa[Bh.parts] using e3) Aa Aa Aa)
 ·intro x hx;obtain⟨P,hP,hx⟩:=OL.1 hx;simp only[Bh.parts,BF] at hP;rcases hP with rfl|rfl|rfl|rfl|hP;exact .inl (Bh.Fg (i:=0) rfl hx);exact (hsub x hx).imp (λh=>Bh.Fg (i:=1) rfl h) id;exact .inl (Bh.Fg (i:=2) rfl hx);exact (hA x hx).imp (λh=>Bh.Fg (i:=3) rfl h) (λh=>Cj hct.size h);exact .inl (OL.2 ⟨P,by simp only[Bh.parts,BF];exact .inr (.inr (.inr (.inr hP))),hx⟩)
 exact hcc.mono (λx hx=>.inl (by
  rcases Bj.1 hx with hx|hx;exact Bh.Fg (i:=1) rfl hx;rcases BF.1 hx with rfl|hx;exact Bh.Fg (i:=0) rfl AV
  exact Bh.Fg (i:=3) rfl hx))
theorem DK.of{w0:AL}{G G0:Bh}{S':St}(h:DK w0 G0 S' w')(hc:AZ [] w w0)(hb:G0.b=G.b)(hsub: ∀x∈G0.all,x∈G.all\/w.heap.size<=x):DK w G S' w':=by
 obtain⟨G',h1,h2,h3,h4⟩:=h
 exact⟨G',h1,h2.trans hb,λx hx=>by
  rcases h3 x hx with h|h;exact hsub x h
  exact .inr (Cj hc.size h),(hc.nil _).trans h4 hsub⟩
theorem Bh.VB{G:Bh}(hx:B<=x): ∀y∈Bh.all {G with K:=x::G.K},y∈G.all\/B<=y:=by
 intro y hy;simp only[Bh.all,Bh.parts,Js,Bj,BF] at hy⊢;rcases hy with h|h|h|h|h|(rfl|h)|h;exact .inl (.inl h);exact .inl (.inr (.inl h));exact .inl (.inr (.inr (.inl h)));exact .inl (.inr (.inr (.inr (.inl h))));exact .inl (.inr (.inr (.inr (.inr (.inl h)))));exact .inr hx;exact .inl (.inr (.inr (.inr (.inr (.inr (.inl h))))));exact .inl (.inr (.inr (.inr (.inr (.inr (.inr h))))))
theorem Bh.AAZ{G:Bh}{g:Nat}(hx:B<=x)(hL: ∀k∈L,B<=k): ∀y∈Bh.all {G with K:=x::G.K,ib:=G.ib++[x],sg:=G.sg++[g],Ls:=G.Ls++[L]},y∈G.all\/B<=y:=by
 intro y hy;simp only[Bh.all,Bh.parts,Js,lM,mX,Ii,Bj,BF] at hy⊢;rcases hy with h|h|h|h|h|(rfl|h)|h|h;exact .inl (.inl h);exact .inl (.inr (.inl h));exact .inl (.inr (.inr (.inl h)));exact .inl (.inr (.inr (.inr (.inl h))));exact .inl (.inr (.inr (.inr (.inr (.inl h)))));exact .inr hx;exact .inl (.inr (.inr (.inr (.inr (.inr (.inl h))))));exact .inl (.inr (.inr (.inr (.inr (.inr (.inr h))))));exact .inr (hL y h)
end
section
variable {d n:ByteArray}{e:Int}{B j k x:Nat}{S:St}{w:AL}
theorem ACn{G:Bh}(h:EJ w G S)(hi:Inv B S)(hB:B<=1073741824)(hok:EN.ok S.files.length S.seen (.Cb d))(Kk:k∈G.K)(hk:w.cell? ⟨k,0,AB⟩=AA (.string d)):
  Au Ae 71 #[.pointer (AA ⟨G.b,0,AB⟩),.func (.func 72) #[] #[.pointer (AA ⟨k,0,AB⟩)]] w λe w'=>e=.returned (.int .i64 0)/\DK w G (S.make (.Cb d)) w':=by
 (have n1:S.EW.length<=1073741824:=by have:=hi.wds;omega);(have n2:S.steps<=1073741824:=by have:=hi.st;omega);have hm: ∀(j:Nat) (P:List Nat),G.parts[j]? =AA P->j≠1->∀x∈P,x∉EZ G.t1 G.g1:=λj P hj hne x hx=>h.lay.ne hj (j:=1) rfl hne x hx;refine (dK 72 #[_] @ATm G.b G.t1 (AA G.t2) G.A G.Aw S.EW.length G.c S.wr.length G.cw S.BK S.stop S.steps G.vs w (λw'=>TA w G.t1 G.g1 G.ib (EN.on S.seen (.Cb d)) w') (EZ G.t1 G.g1) ((xC h.Ff h.Lt hok.2 hk).mono (λe w' hq=>⟨hq.1,hq.2,hq.2.2⟩)) h.blk h.own (hm 0 _ rfl Aq _ AV) (hm 3 _ rfl Aq) n1 n2).mono ?_;rintro e w' ⟨rfl,w1,hcl,hc0,hc1,A',c',hb,ho,hA⟩;exact⟨rfl,h.did ⟨k,rfl,Kk,hk⟩ hcl hc1 hb ho hA⟩
theorem ACo{G:Bh}(h:EJ w G S)(hi:Inv B S)(hB:B<=1073741824)(_:EN.ok S.files.length S.seen (.rmdir d))(Kk:k∈G.K)(hk:w.cell? ⟨k,0,AB⟩=AA (.string d)):
  Au Ae 71 #[.pointer (AA ⟨G.b,0,AB⟩),.func (.func 130) #[] #[.pointer (AA ⟨k,0,AB⟩)]] w λe w'=>e=.returned (.int .i64 0)/\DK w G (S.make (.rmdir d)) w':=by
 (have n1:S.EW.length<=1073741824:=by have:=hi.wds;omega);(have n2:S.steps<=1073741824:=by have:=hi.st;omega);have hm: ∀(j:Nat) (P:List Nat),G.parts[j]? =AA P->j≠1->∀x∈P,x∉EZ G.t1 G.g1:=λj P hj hne x hx=>h.lay.ne hj (j:=1) rfl hne x hx;refine (dK 130 #[_] @ARN G.b G.t1 (AA G.t2) G.A G.Aw S.EW.length G.c S.wr.length G.cw S.BK S.stop S.steps G.vs w (λw'=>TA w G.t1 G.g1 G.ib (EN.on S.seen (.rmdir d)) w') (EZ G.t1 G.g1) ((xE h.Ff h.Lt hk).mono (λe w' hq=>⟨hq.1,hq.2,hq.2.2⟩)) h.blk h.own (hm 0 _ rfl Aq _ AV) (hm 3 _ rfl Aq) n1 n2).mono ?_;rintro e w' ⟨rfl,w1,hcl,hc0,hc1,A',c',hb,ho,hA⟩;exact⟨rfl,h.did ⟨k,rfl,Kk,hk⟩ hcl hc1 hb ho hA⟩
theorem AAa{G:Bh}(h:EJ w G S)(hi:Inv B S)(hB:B<=1073741824)(hok:EN.ok S.files.length S.seen (.remove d n))(Kk:k∈G.K)(hk:w.cell? ⟨k,0,AB⟩=AA (.string d))(Kj:j∈G.K)(hj:w.cell? ⟨j,0,AB⟩=AA (.string n)):
  Au Ae 71 #[.pointer (AA ⟨G.b,0,AB⟩),.func (.func 129) #[] #[.pointer (AA ⟨k,0,AB⟩),.pointer (AA ⟨j,0,AB⟩)]] w λe w'=>e=.returned (.int .i64 0)/\DK w G (S.make (.remove d n)) w':=by
 (have n1:S.EW.length<=1073741824:=by have:=hi.wds;omega);(have n2:S.steps<=1073741824:=by have:=hi.st;omega);have hm: ∀(j:Nat) (P:List Nat),G.parts[j]? =AA P->j≠1->∀x∈P,x∉EZ G.t1 G.g1:=λj P hj hne x hx=>h.lay.ne hj (j:=1) rfl hne x hx;refine (dK 129 #[_,_] @ARL G.b G.t1 (AA G.t2) G.A G.Aw S.EW.length G.c S.wr.length G.cw S.BK S.stop S.steps G.vs w (λw'=>TA w G.t1 G.g1 G.ib (EN.on S.seen (.remove d n)) w') (EZ G.t1 G.g1) ((qN h.Ff h.Lt hi.val hok hk hj).mono (λe w' hq=>⟨hq.1,hq.2,hq.2.2⟩)) h.blk h.own (hm 0 _ rfl Aq _ AV) (hm 3 _ rfl Aq) n1 n2).mono ?_;rintro e w' ⟨rfl,w1,hcl,hc0,hc1,A',c',hb,ho,hA⟩;exact⟨rfl,h.did ⟨k,j,rfl,Kk,Kj,hk,hj⟩ hcl hc1 hb ho hA⟩
theorem AAb{G:Bh}(h:EJ w G S)(hi:Inv B S)(hB:B<=1073741824){a b:ByteArray}(hok:EN.ok S.files.length S.seen (.rename a b))(Kk:k∈G.K)(hk:w.cell? ⟨k,0,AB⟩=AA (.string a))(Kj:j∈G.K)(hj:w.cell? ⟨j,0,AB⟩=AA (.string b)):
  Au Ae 71 #[.pointer (AA ⟨G.b,0,AB⟩),.func (.func 85) #[] #[.pointer (AA ⟨k,0,AB⟩),.pointer (AA ⟨j,0,AB⟩)]] w λe w'=>e=.returned (.int .i64 0)/\DK w G (S.make (.rename a b)) w':=by
 (have n1:S.EW.length<=1073741824:=by have:=hi.wds;omega);(have n2:S.steps<=1073741824:=by have:=hi.st;omega);have hm: ∀(j:Nat) (P:List Nat),G.parts[j]? =AA P->j≠1->∀x∈P,x∉EZ G.t1 G.g1:=λj P hj hne x hx=>h.lay.ne hj (j:=1) rfl hne x hx;refine (dK 85 #[_,_] @ATq G.b G.t1 (AA G.t2) G.A G.Aw S.EW.length G.c S.wr.length G.cw S.BK S.stop S.steps G.vs w (λw'=>TA w G.t1 G.g1 G.ib (EN.on S.seen (.rename a b)) w') (EZ G.t1 G.g1) ((qO h.Ff h.Lt hok hk hj (λe=>hm 5 _ rfl Aq k Kk (by simp[EZ,e])) (λe=>hm 5 _ rfl Aq j Kj (by simp[EZ,e]))).mono (λe w' hq=>⟨hq.1,hq.2,hq.2.2⟩)) h.blk h.own (hm 0 _ rfl Aq _ AV) (hm 3 _ rfl Aq) n1 n2).mono ?_;rintro e w' ⟨rfl,w1,hcl,hc0,hc1,A',c',hb,ho,hA⟩;exact⟨rfl,h.did ⟨k,j,rfl,Kk,Kj,hk,hj⟩ hcl hc1 hb ho hA⟩
theorem AAc{G:Bh}(h:EJ w G S)(hi:Inv B S)(hB:B<=1073741824){i:Nat}(hok:EN.ok S.files.length S.seen (.create d n i))(Kx:x∈G.K)(hx:w.cell? ⟨x,0,AB⟩=AA (.pointer (AA ⟨ED G.ib i,0,AB⟩)))(Kk:k∈G.K)(hk:w.cell? ⟨k,0,AB⟩=AA (.string d))(Kj:j∈G.K)(hj:w.cell? ⟨j,0,AB⟩=AA (.string n)):
  Au Ae 71 #[.pointer (AA ⟨G.b,0,AB⟩),.func (.func 73) #[] #[.pointer (AA ⟨x,0,AB⟩),.pointer (AA ⟨k,0,AB⟩),.pointer (AA ⟨j,0,AB⟩)]] w λe w'=>e=.returned (.int .i64 0)/\DK w G (S.make (.create d n i)) w':=by
 (have n1:S.EW.length<=1073741824:=by have:=hi.wds;omega);(have n2:S.steps<=1073741824:=by have:=hi.st;omega);have hm: ∀(j:Nat) (P:List Nat),G.parts[j]? =AA P->j≠1->∀x∈P,x∉EZ G.t1 G.g1:=λj P hj hne x hx=>h.lay.ne hj (j:=1) rfl hne x hx;refine (dK 73 #[_,_,_] @ATn G.b G.t1 (AA G.t2) G.A G.Aw S.EW.length G.c S.wr.length G.cw S.BK S.stop S.steps G.vs w (λw'=>TA w G.t1 G.g1 G.ib (EN.on S.seen (.create d n i)) w') (EZ G.t1 G.g1) ((qM h.Ff h.Lt hi.val hok hx hk hj).mono (λe w' hq=>⟨hq.1,hq.2,hq.2.2⟩)) h.blk h.own (hm 0 _ rfl Aq _ AV) (hm 3 _ rfl Aq) n1 n2).mono ?_;rintro e w' ⟨rfl,w1,hcl,hc0,hc1,A',c',hb,ho,hA⟩;exact⟨rfl,h.did ⟨x,k,j,rfl,Kx,Kk,Kj,hx,hk,hj,by rw[h.Qo];exact hok.1⟩ hcl hc1 hb ho hA⟩
theorem Ht{there:Bool}{ns:List ByteArray}(h:S.ask there ns=0):S.down=false/\(∀n∈ns,CO n=true)/\(there=true->∃F,BJ S.seen (ns.headD Ku)=AA F):=by
 unfold St.ask at h
 cases hd:S.down with
 |true=>rw[BU hd] at h;cases h|false=>
  rw[BL (by simp[hd])] at h
  cases hg:ns.all CO with
  |false=>rw[BU hg] at h;cases h|true=>
   rw[BL (by simp[hg])] at h;refine⟨rfl,λn hn=>JD.1 hg n hn,λht=>?_⟩
   cases hs:BJ S.seen (ns.headD Ku) with|some F=>exact⟨F,rfl⟩|none=>rw[BU ⟨ht,by rw[hs];rfl⟩] at h;cases h
theorem AH1{G:Bh}(h:EJ w G S)(hi:Inv B S)(hB:B<=1073741824)(d:ByteArray):
  Au Ae 42 #[.pointer (AA ⟨G.b,0,AB⟩),.string d] w λe w'=>e=.returned (.int .i64 (S.Cb d).2)/\DK w G (S.Cb d).1 w':=by
 have HF:=AO h;have HI:=AO hi;have HB:=AO hB;clear h hi hB;have k70:= @jc;have k71:= @ACR;go_enter ANy,Tryz.ntmps42;(go_wp2_with fail);have hal:AZ [] w ((w.alloc (.cells #[.string d] 9)).alloc (.cells #[.string d] 9)):=((AZ.refl _ _).alloc _).alloc _;refine (Vy (HF.out.Cc hal) false _ 1 1 [d] (by simpa[OB] using (Own.lit (w.alloc (.cells #[.string d] 9)) 9 1 #[.string d] 1 Aq rfl).rd) Aq AV).mono ?_;rintro e w1 ⟨rfl,hc1⟩;have CZ:Hid (AZ [] w w1):=AO (hal.Ah hc1);have hk:w1.cell? ⟨w.heap.size,0,AB⟩=AA (.string d):=hc1.cell (((Bv.new w 9 #[.string d]).alloc _).cell 0) (λh=>BH h);(have hs1:w.heap.size<w1.heap.size:=by have:=hc1.size;simp at this;omega);have Gf:=AO (HF.out.xH CZ.out (Bd _) hs1);clear hc1 hal hs1;obtain⟨E,hE⟩: ∃E,S.ask false [d]=E:=⟨_,rfl⟩;rw[hE];have HE:=AO hE;clear hE;by_cases h:E=0
 ·subst h;have h0:=Gf.out.blk.cell 0;simp at h0;have hl:=λq=>(Mp.lookup (Gf.out.Ff.top.Ap ((AZ.refl [] w1).drewN q) BH) (Cm Kv) Iy (z:=.map AB) Az d).1;have hq:=λw r=>run_neq_map_nil (P:=Ae) w 130 _ _ r PO;simp only[Ez] at hl
  cases hd:BJ G.g1 d with
  |some e=>
   rw[hd] at hl;simp only[Fj,Dx] at hl
   have HR:Hid (S.Cb d=(S,83)):=AO (by
    have:=HF.out.Lt.top d;rw[hd] at this;unfold St.Cb
    rw[BL (by rw[HE.out];simp),BU (by rw[<- this];rfl)])
   clear hd;(go_wp2_with fail);go_quiet (fail);go_wp2;go_ret;exact⟨by rw[HR.out];rfl,by rw[HR.out];exact DK.same HF.out (CZ.out.drewN _)⟩
  |none=>
   rw[hd] at hl;simp only[YC,Option.getD_none] at hl
   have hT:BJ S.seen d=AB:=by
    have:=HF.out.Lt.top d;rw[hd] at this
    cases hs:BJ S.seen d with|none=>rfl|some F=>rw[hs] at this;cases this
   have HR:Hid (S.Cb d=(S.make (.Cb d),0)):=AO (by
    unfold St.Cb
    rw[BL (by rw[HE.out];simp),BL (by rw[hT];simp)])
   have HT:=AO hT;clear hd hT;(go_wp2_with fail);go_quiet (fail);(go_wp2_with fail);refine (ACn (Gf.out.Cc ((AZ.refl [] w1).drewN _)) HI.out HB.out ⟨(Ht HE.out).2.1 d AV,HT.out⟩ (k:=w.heap.size) AV (((AZ.refl [] w1).drewN _).cell hk BH)).mono ?_;rintro e w2 ⟨rfl,hto⟩;have HTO:=AO hto;clear hto;go_wp2;go_ret;exact⟨by rw[HR.out];rfl,by rw[HR.out];exact HTO.out.of (CZ.out.drewN _) rfl (Bh.VB (Bd _))⟩
 (have hb:(E !=0)=true:=by simp[h]);have HR:Hid (S.Cb d=(S,E)):=AO (by unfold St.Cb;rw[HE.out,BU h]);clear h;go_wp2;go_ret;exact⟨by rw[HR.out];rfl,by rw[HR.out];exact DK.same HF.out CZ.out⟩
theorem EJ.AFJ{w1:AL}{G:Bh}(h:EJ w G S)(hc:AZ [] w w1)(hx1:w.heap.size+1<w1.heap.size):EJ w1 {G with K:=(w.heap.size+1)::w.heap.size::G.K} S:=by
 have hc0:AZ [] w (w.alloc (.map #[] 0)):=(AZ.refl _ _).alloc _;have h1:=h.xH (x:=w.heap.size) hc0 (Bd _) AV;have h2:=h.xH (x:=w.heap.size) hc (Bd _) Aa;refine⟨h2.blk,h2.Ff,h2.Lt,h2.tr2,h2.is2,h2.own,λi c v a b=>(h2.chn i c v a b).keep (AZ.refl [] w1) GM (λ_ hm=>DD _ hm) (λ_ _=>rfl) (Bd _),h2.kY,h2.Qo,h2.Yv,h2.Yw,h2.Zt,λy hy=>DD _ (h2.Wn y hy),h2.ino,?_⟩
 exact h1.lay.FH (w':=w1) (i:=5) (P':=(w.heap.size+1)::w.heap.size::G.K) rfl (λy hy=>by
  rcases BF.1 hy with rfl|hy;right;simp
  ·exact .inl hy) (λy hy=>by
  rcases BF.1 hy with rfl|hy;exact hx1
  exact h2.lay.lt (w.heap.size::G.K) (Bi (i:=5) rfl) y hy) (by simp;omega)
theorem Bh.Zu{G:Bh}{y:Nat}(hx:B<=x)(hy:B<=y): ∀z∈Bh.all {G with K:=y::x::G.K},z∈G.all\/B<=z:=by
 intro z hz;rcases Bh.VB (G:={G with K:=x::G.K}) hy z hz with h|h;exact Bh.VB hx z h;exact .inr h
theorem Mp.len{κ:Type}{b:Nat}{kv:κ->AQ}{m:List (κ×AQ)}(h:Mp w b kv m){t k e ty:Am}(ht:Ae.underlying t=AA (.map k e)):(Un #[t] ty #[.map (AA b)]).run Ae w=.ok (.int .i64 (m.length:Int)) w:=by
 obtain⟨es,clock,hb,he,_⟩:=h;(have hl:es.size=m.length:=by have:=congrArg NZ he;simpa using this);(have hrun:(getObj b).run Ae w=.ok (.map es clock) w:=by simp[getObj,Dw,hb]);simp[Un,IK ht,hrun,hl,goInt]
theorem AH2{G:Bh}(h:EJ w G S)(hi:Inv B S)(hB:B<=1073741824)(d:ByteArray):
  Au Ae 99 #[.pointer (AA ⟨G.b,0,AB⟩),.string d] w λe w'=>e=.returned (.int .i64 (S.rmdir d).2)/\DK w G (S.rmdir d).1 w':=by
 have HF:=AO h;have HI:=AO hi;have HB:=AO hB;clear h hi hB;have k70:= @jc;have k71:= @ACR;go_enter AOa,Tryz.ntmps99;(go_wp2_with fail);have hal:AZ [] w ((w.alloc (.cells #[.string d] 9)).alloc (.cells #[.string d] 9)):=((AZ.refl _ _).alloc _).alloc _;refine (Vy (HF.out.Cc hal) true _ 1 1 [d] (by simpa[OB] using (Own.lit (w.alloc (.cells #[.string d] 9)) 9 1 #[.string d] 1 Aq rfl).rd) Aq AV).mono ?_;rintro e w1 ⟨rfl,hc1⟩;have CZ:Hid (AZ [] w w1):=AO (hal.Ah hc1);have hk:w1.cell? ⟨w.heap.size,0,AB⟩=AA (.string d):=hc1.cell (((Bv.new w 9 #[.string d]).alloc _).cell 0) (λh=>BH h);(have hs1:w.heap.size<w1.heap.size:=by have:=hc1.size;simp at this;omega);have Gf:=AO (HF.out.xH CZ.out (Bd _) hs1);clear hc1 hal hs1;obtain⟨E,hE⟩: ∃E,S.ask true [d]=E:=⟨_,rfl⟩;rw[hE];have HE:=AO hE;clear hE;by_cases h:E=0
 ·subst h;obtain⟨F,hF⟩:=(Ht HE.out).2.2 rfl;simp only[Rj] at hF;obtain⟨g,hg,hsub⟩:=HF.out.Lt.get hF;have h0:=Gf.out.blk.cell 0;simp at h0;have hl:=λq=>(Mp.lookup (Gf.out.Ff.top.Ap ((AZ.refl [] w1).drewN q) BH) (Cm Kv) Iy (z:=.map AB) Az d).1;rw[show G.g1=({G with K:=w.heap.size::G.K}:Bh).g1 from rfl] at hg;have hlen:=λq ty=>Mp.len ((Gf.out.Ff.sub _ (CQ hg)).Ap ((AZ.refl [] w1).drewN q) BH) (ty:=ty) PO;simp only[Ez,hg] at hl;simp only[Fj,Dx] at hl
  have hfl:(Ip g.2).length=F.length:=by
   have:=(gz hsub (Gf.out.Ff.Rx (CQ hg)) (HI.out.val.sub _ (CQ hF))).length_eq;simpa[Ip] using this
  simp only[hfl] at hlen;have Wp:=AO hF;clear hg hsub hfl hF;by_cases hz:0<F.length
  ·have hz1: ¬F.length=0:=by omega
   have HR:Hid (S.rmdir d=(S,84)):=AO (by
    unfold St.rmdir;rw[BL (by rw[HE.out];simp),BU (by rw[FT Wp.out];exact hz)]
    rfl)
   (go_wp2_with fail);go_quiet (fail);go_wp2;go_ret;exact⟨by rw[HR.out];rfl,by rw[HR.out];exact DK.same HF.out (CZ.out.drewN _)⟩
  (have hz0:F.length=0:=by omega);rw[hz0] at hlen
  have HR:Hid (S.rmdir d=(S.make (.rmdir d),0)):=AO (by
   unfold St.rmdir
   rw[BL (by rw[HE.out];simp),BL (by rw[FT Wp.out];exact hz)])
  clear hz hz0;(go_wp2_with fail);go_quiet (fail);(go_wp2_with fail);refine (ACo (Gf.out.Cc ((AZ.refl [] w1).drewN _)) HI.out HB.out ⟨F,Wp.out⟩ (k:=w.heap.size) AV (((AZ.refl [] w1).drewN _).cell hk BH)).mono ?_;rintro e w2 ⟨rfl,hto⟩;have HTO:=AO hto;clear hto;go_wp2;go_ret;exact⟨by rw[HR.out];rfl,by rw[HR.out];exact HTO.out.of (CZ.out.drewN _) rfl (Bh.VB (Bd _))⟩
 (have hb:(E !=0)=true:=by simp[h]);have HR:Hid (S.rmdir d=(S,E)):=AO (by unfold St.rmdir;rw[HE.out,BU h]);clear h;go_wp2;go_ret;exact⟨by rw[HR.out];rfl,by rw[HR.out];exact DK.same HF.out CZ.out⟩
theorem AFK{G:Bh}(h:EJ w G S)(hi:Inv B S)(hB:B<=1073741824)(d n:ByteArray):
  Au Ae 52 #[.pointer (AA ⟨G.b,0,AB⟩),.string d,.string n] w λe w'=>e=.returned (.int .i64 (S.rename d n).2)/\DK w G (S.rename d n).1 w':=by
 have HF:=AO h;have HI:=AO hi;have HB:=AO hB;clear h hi hB;have k70:= @jc;have k71:= @ACR;go_enter AN6,Tryz.ntmps52;(go_wp2_with fail);have hal:AZ [] w (((w.alloc (.cells #[.string d] 9)).alloc (.cells #[.string n] 9)).alloc (.cells #[.string d,.string n] 9)):=(((AZ.refl _ _).alloc _).alloc _).alloc _;(have hsz:((w.alloc (.cells #[.string d] 9)).alloc (.cells #[.string n] 9)).heap.size=w.heap.size+2:=by simp);refine (Vy (HF.out.Cc hal) true _ 2 2 [d,n] (by simpa[OB] using (Own.lit ((w.alloc (.cells #[.string d] 9)).alloc (.cells #[.string n] 9)) 9 1 #[.string d,.string n] 2 Aq rfl).rd) Aq AV).mono ?_;rintro e w1 ⟨rfl,hc1⟩;have CZ:Hid (AZ [] w w1):=AO (hal.Ah hc1);have hk:w1.cell? ⟨w.heap.size,0,AB⟩=AA (.string d):=hc1.cell ((((Bv.new w 9 #[.string d]).alloc _).alloc _).cell 0) (λh=>BH h);have hj:w1.cell? ⟨w.heap.size+1,0,AB⟩=AA (.string n):=hc1.cell (by simpa using (((Bv.new (w.alloc (.cells #[.string d] 9)) 9 #[.string n]).alloc _).cell 0)) (λh=>BH h);(have hs1:w.heap.size+1<w1.heap.size:=by have:=hc1.size;simp at this;omega);have Gf:=AO ((HF.out.xH CZ.out (Bd w.heap.size) Aa));have AGk:Hid (w.heap.size+1<w1.heap.size):=AO hs1;clear hc1 hal hs1 hsz;obtain⟨E,hE⟩: ∃E,S.ask true [d,n]=E:=⟨_,rfl⟩;rw[hE];have HE:=AO hE;clear hE;by_cases h:E=0
 ·subst h;obtain⟨F,hF⟩:=(Ht HE.out).2.2 rfl;simp only[Rj] at hF;have Wp:=AO hF
  have HR:Hid (S.rename d n=(S.make (.rename d n),0)):=AO (by
   unfold St.rename
   rw[BL (by rw[HE.out];simp)])
  clear hF;(go_wp2_with fail);refine (AAb (HF.out.AFJ CZ.out AGk.out) HI.out HB.out ⟨(Ht HE.out).2.1 n AV,F,Wp.out⟩ (k:=w.heap.size) (j:=w.heap.size+1) AV hk AV hj).mono ?_;rintro e w2 ⟨rfl,hto⟩;have HTO:=AO hto;clear hto;go_wp2;go_ret;exact⟨by rw[HR.out];rfl,by rw[HR.out];exact HTO.out.of CZ.out rfl (Bh.Zu (Bd _) Aa)⟩
 (have hb:(E !=0)=true:=by simp[h]);have HR:Hid (S.rename d n=(S,E)):=AO (by unfold St.rename;rw[HE.out,BU h]);clear h;go_wp2;go_ret;exact⟨by rw[HR.out];rfl,by rw[HR.out];exact DK.same HF.out CZ.out⟩
theorem VC(h:S.Om d n=(AA x,e)):e=0/\S.down=false/\∃F,BJ S.seen d=AA F/\BJ F n=AA x:=by
 unfold St.Om at h;by_cases h0:S.ask true [d,n]=0
 ·rw[BL (by simp[h0])] at h;obtain⟨hd,_,hF⟩:=Ht h0;obtain⟨F,hF⟩:=hF rfl;simp only[Rj] at hF;rw[FT hF] at h
  cases hn:BJ F n with|none=>rw[hn] at h;cases h|some i=>rw[hn] at h;injection h with h1 h2;injection h1 with h1;subst h1;exact⟨h2.symm,hd,F,hF,hn⟩
 rw[BU h0] at h;cases h
theorem qR(h:S.Om d n=(AB,e)):e≠0:=by
 unfold St.Om at h;by_cases h0:S.ask true [d,n]=0
 ·rw[BL (by simp[h0])] at h
  cases hn:BJ (FQ S.seen d) n with
  |none=>rw[hn] at h;injection h with _ h2;rw[<- h2];decide
  |some i=>rw[hn] at h;cases h
 rw[BU h0] at h;injection h with _ h2;rw[<- h2];exact h0
theorem AFL{G:Bh}(h:EJ w G S)(hi:Inv B S)(hB:B<=1073741824)(d n:ByteArray):
  Au Ae 98 #[.pointer (AA ⟨G.b,0,AB⟩),.string d,.string n] w λe w'=>e=.returned (.int .i64 (S.remove d n).2)/\DK w G (S.remove d n).1 w':=by
 have HF:=AO h;have HI:=AO hi;have HB:=AO hB;clear h hi hB;have k71:= @ACR;have k81:= @AKg;go_enter AOZ,Tryz.ntmps98;(go_wp2_with fail);have hal:AZ [] w ((w.alloc (.cells #[.string d] 9)).alloc (.cells #[.string n] 9)):=((AZ.refl _ _).alloc _).alloc _;refine (qQ (HF.out.Cc hal) d n).mono ?_;rintro e w1 ⟨rfl,hc1⟩;have CZ:Hid (AZ [] w w1):=AO (hal.Ah hc1);have hk:w1.cell? ⟨w.heap.size,0,AB⟩=AA (.string d):=hc1.cell (((Bv.new w 9 #[.string d]).alloc _).cell 0) (λh=>BH h);have hj:w1.cell? ⟨w.heap.size+1,0,AB⟩=AA (.string n):=hc1.cell AV (λh=>BH h);(have hs1:w.heap.size+1<w1.heap.size:=by have:=hc1.size;simp at this;omega);have AGk:Hid (w.heap.size+1<w1.heap.size):=AO hs1;clear hc1 hal hs1;obtain⟨o,E,hE⟩: ∃o E,S.Om d n=(o,E):=⟨_,_,rfl⟩;rw[hE];have HE:=AO hE
 cases o with
 |some x=>
  obtain⟨he0,hd0,F,hF,hx⟩:=VC hE;subst he0;have Wp:=AO hF;have HR:Hid (S.remove d n=(S.make (.remove d n),0)):=AO (by unfold St.remove;rw[HE.out]);clear hF hE hx hd0;simp only[Xl,Fj];(go_wp2_with fail);refine (AAa (HF.out.AFJ CZ.out AGk.out) HI.out HB.out ⟨F,Wp.out⟩ (k:=w.heap.size) (j:=w.heap.size+1) AV hk AV hj).mono ?_;rintro e w2 ⟨rfl,hto⟩;have HTO:=AO hto;clear hto;go_wp2;go_ret;exact⟨by rw[HR.out];rfl,by rw[HR.out];exact HTO.out.of CZ.out rfl (Bh.Zu (Bd _) Aa)⟩
 |none=>
  (have hb:(E !=0)=true:=by simpa using qR hE);have HR:Hid (S.remove d n=(S,E)):=AO (by unfold St.remove;rw[HE.out]);clear hE;simp only[Xl,YC];go_wp2;go_ret;exact⟨by rw[HR.out];rfl,by rw[HR.out];exact DK.same HF.out CZ.out⟩
theorem kZ(fs:List FY)(f:FY):Ie (fs++[f])=Ie fs+(f.all.length+f.2.length):=by
 simp[Ie]
theorem Inv.dN(h:Inv B S)(f:List Int):Inv (B+f.length+1) {S with files:=S.files++[(f,[])]}:=by
 obtain⟨h1,h2,h3,h4,h5,h6,h7,h8,h9,h10⟩:=h;refine⟨h1.mono AV,AH0 h2 AV,h3,λx hx=>by have:=h4 x hx;simp;omega,by simp only;omega,by simp;omega,?_,by simp only;omega,by simp only;omega,h10⟩;simp only[kZ,FY.all,mX,Ii,Hg];omega
theorem AFM{G:Bh}(h:EJ w G S)(hi:Inv B S)(hB:B+1<=1073741824)(d n:ByteArray):
  Au Ae 44 #[.pointer (AA ⟨G.b,0,AB⟩),.string d,.string n] w λe w'=>e=.returned (.int .i64 (S.create d n).2)/\DK w G (S.create d n).1 w':=by
 have HF:=AO h;have HI:=AO hi;have HB:=AO hB;clear h hi hB;have k59:= @AOp;have k70:= @jc;have k71:= @ACR;go_enter AN0,Tryz.ntmps44;(go_wp2_with fail);have hal:AZ [] w (((w.alloc (.cells #[.string d] 9)).alloc (.cells #[.string n] 9)).alloc (.cells #[.string d,.string n] 9)):=(((AZ.refl _ _).alloc _).alloc _).alloc _;(have hsz:((w.alloc (.cells #[.string d] 9)).alloc (.cells #[.string n] 9)).heap.size=w.heap.size+2:=by simp);refine (Vy (HF.out.Cc hal) true _ 2 2 [d,n] (by simpa[OB] using (Own.lit ((w.alloc (.cells #[.string d] 9)).alloc (.cells #[.string n] 9)) 9 1 #[.string d,.string n] 2 Aq rfl).rd) Aq AV).mono ?_;rintro e w1 ⟨rfl,hc1⟩;have CZ:Hid (AZ [] w w1):=AO (hal.Ah hc1);have hk:w1.cell? ⟨w.heap.size,0,AB⟩=AA (.string d):=hc1.cell ((((Bv.new w 9 #[.string d]).alloc _).alloc _).cell 0) (λh=>BH h);have hj:w1.cell? ⟨w.heap.size+1,0,AB⟩=AA (.string n):=hc1.cell (by simpa using (((Bv.new (w.alloc (.cells #[.string d] 9)) 9 #[.string n]).alloc _).cell 0)) (λh=>BH h);(have hs1:w.heap.size+1<w1.heap.size:=by have:=hc1.size;simp at this;omega);have AGk:Hid (w.heap.size+1<w1.heap.size):=AO hs1;have Gf:=AO (HF.out.AFJ CZ.out hs1);clear hc1 hal hs1 hsz;obtain⟨E,hE⟩: ∃E,S.ask true [d,n]=E:=⟨_,rfl⟩;rw[hE];have HE:=AO hE;clear hE;by_cases h:E=0
 ·subst h;obtain⟨F,hF⟩:=(Ht HE.out).2.2 rfl;simp only[Rj] at hF;obtain⟨g,hg,hsub⟩:=HF.out.Lt.get hF;have h0:=Gf.out.blk.cell 0;simp at h0;have hl:=λq=>(Mp.lookup (Gf.out.Ff.top.Ap ((AZ.refl [] w1).drewN q) BH) (Cm Kv) Iy (z:=.map AB) Az d).1;rw[show G.g1=({G with K:=(w.heap.size+1)::w.heap.size::G.K}:Bh).g1 from rfl] at hg;have hl2:=λq=>(Mp.lookup ((Gf.out.Ff.sub _ (CQ hg)).Ap ((AZ.refl [] w1).drewN q) BH) (Cm Kv) PO (z:=.pointer AB) Az n).1;simp only[Ez,hg] at hl;simp only[Fj,Dx] at hl;simp only at hl2;simp only[Vt,hsub n] at hl2;have Wp:=AO hF;clear hg hsub hF
  cases hx:BJ F n with
  |some x=>
   rw[hx] at hl2;simp only[Fj,Dx] at hl2
   have HR:Hid (S.create d n=(S,83)):=AO (by
    unfold St.create
    rw[BL (by rw[HE.out];simp),BU (by rw[FT Wp.out,hx];rfl)])
   clear hx;(go_wp2_with fail);go_quiet (fail);go_wp2;go_ret;exact⟨by rw[HR.out];rfl,by rw[HR.out];exact DK.same HF.out (CZ.out.drewN _)⟩
  |none=>
   rw[hx] at hl2;simp only[YC,Option.getD_none] at hl2
   have HR:Hid (S.create d n=(({S with files:=S.files++[([],[])]}:St).make (.create d n S.files.length),0)):=AO (by
    unfold St.create
    rw[BL (by rw[HE.out];simp),BL (by rw[FT Wp.out,hx];simp)])
   have HX:=AO hx;clear hx;(go_wp2_with fail);go_quiet (fail);(go_wp2_with fail);refine (new_any AB 0 0 [] _ Aq (Rd.nil _ _)).mono ?_;rintro e w2 ⟨sg,L,rfl,hs,hc2,hLn⟩;have HC2:Hid (AZ [] w1 w2):=AO (((AZ.refl [] w1).drewN _).Ah hc2);have HS:=AO hs;have HLN:Hid (∀k∈L,w1.heap.size<=k):=AO hLn;have hk2:=HC2.out.cell hk BH;have hj2:=HC2.out.cell hj BH;clear hs hc2 hLn hk hj h0 hl hl2;(go_wp2_with fail);have hF2:=Gf.out.dN HI.out HC2.out HLN.out HS.out (w2:=w2.alloc (.cells #[.pointer (AA ⟨sg,0,AB⟩)] 126)) ((AZ.refl [] w2).alloc _) (x:=w2.heap.size) (Bd _) (Bv.new w2 126 #[.pointer (AA ⟨sg,0,AB⟩)]);have hF3:=hF2.xH (w1:=(w2.alloc (.cells #[.pointer (AA ⟨sg,0,AB⟩)] 126)).alloc (.cells #[.pointer (AA ⟨w2.heap.size,0,AB⟩)] 121)) ((AZ.refl [] _).alloc _) (x:=w2.heap.size+1) AV AV;have hc4:AZ [] w2 ((w2.alloc (.cells #[.pointer (AA ⟨sg,0,AB⟩)] 126)).alloc (.cells #[.pointer (AA ⟨w2.heap.size,0,AB⟩)] 121)):=((AZ.refl [] w2).alloc _).alloc _
   have hx4:((w2.alloc (.cells #[.pointer (AA ⟨sg,0,AB⟩)] 126)).alloc (.cells #[.pointer (AA ⟨w2.heap.size,0,AB⟩)] 121)).cell? ⟨w2.heap.size+1,0,AB⟩=AA (.pointer (AA ⟨w2.heap.size,0,AB⟩)):=by
    simp
   (have hib:ED (G.ib++[w2.heap.size]) S.files.length=w2.heap.size:=by rw[<- HF.out.Qo];exact ACm _ _);have hin:=HI.out.dN [];refine (AAc hF3 hin (by simpa using HB.out) (i:=S.files.length) ⟨AV,(Ht HE.out).2.1 n AV,F,Wp.out,HX.out⟩ (x:=w2.heap.size+1) (k:=w.heap.size) (j:=w.heap.size+1) AV (by show _=AA (QL (AA ⟨ED (G.ib++[w2.heap.size]) S.files.length,0,AB⟩));rw[hib];exact hx4) AV (hc4.cell hk2 BH) AV (hc4.cell hj2 BH)).mono ?_;rintro e w5 ⟨rfl,hto⟩;have HTO:=AO hto;have hsz2:=HC2.out.size;have hsz1:=CZ.out.size
   have LQ:Hid (∀y∈Bh.all {b:=G.b,t1:=G.t1,t2:=G.t2,g1:=G.g1,g2:=G.g2,A:=G.A,c:=G.c,vs:=G.vs,Aw:=G.Aw,cw:=G.cw,K:=(w2.heap.size+1)::w2.heap.size::(w.heap.size+1)::w.heap.size::G.K,ib:=G.ib++[w2.heap.size],sg:=G.sg++[sg],Ls:=G.Ls++[L]},y∈G.all\/w.heap.size<=y):=AO (λy hy=>by
    rcases Bh.VB (B:=w.heap.size) (G:={G with K:=w2.heap.size::(w.heap.size+1)::w.heap.size::G.K,ib:=G.ib++[w2.heap.size],sg:=G.sg++[sg],Ls:=G.Ls++[L]}) (x:=w2.heap.size+1) Aa y hy with h1|h1
    ·rcases Bh.AAZ (B:=w.heap.size) (G:={G with K:=(w.heap.size+1)::w.heap.size::G.K}) (x:=w2.heap.size) (L:=L) (g:=sg) Aa (λk hk=>by have:=HLN.out k hk;omega) y h1 with h2|h2;exact Bh.Zu (Bd _) Aa y h2;exact .inr h2
    exact .inr h1)
   have HCC:Hid (AZ [] w ((w2.alloc (.cells #[.pointer (AA ⟨sg,0,AB⟩)] 126)).alloc (.cells #[.pointer (AA ⟨w2.heap.size,0,AB⟩)] 121))):=AO ((CZ.out.Ah HC2.out).Ah hc4);clear hto hF2 hF3 hc4 hx4 hib hin hk2 hj2 hsz2 hsz1;go_wp2;go_ret;exact⟨by rw[HR.out];rfl,by rw[HR.out];exact HTO.out.of HCC.out rfl LQ.out⟩
 (have hb:(E !=0)=true:=by simp[h]);have HR:Hid (S.create d n=(S,E)):=AO (by unfold St.create;rw[HE.out,BU h]);clear h;go_wp2;go_ret;exact⟨by rw[HR.out];rfl,by rw[HR.out];exact DK.same HF.out CZ.out⟩
end
open Go.ChangeMaps Go.MapKept
section
variable {g g':NG}{B i:Nat}{S:St}{α:Type}{e k:Am}{w:AL}
def Je {κ:Type} (w:AL) (b r:Nat) (kv:κ->AQ) (m todo:List (κ×AQ)):Prop:=
 ∃es clock since seen c0,w.heap[b]? =AA (.map es clock)/\es.toList.map (λe=>(e.key,e.val))=m.map (λp=>(kv p.1,p.2))/\(m.map Ac).Nodup/\(es.toList.map (·.born)).Nodup/\(∀e∈es.toList,e.born<clock)/\
  w.heap[r]? =AA (.mapIter (AA b) since seen c0)/\(∀x∈es.toList,x.born<since)/\since<=c0/\since<=clock/\(leftOf es seen).toList.map (λe=>(e.key,e.val))=todo.map (λp=>(kv p.1,p.2))
theorem ACp{l:List α}{p:α}(h:l[i]? =AA p):l.Perm (p::l.eraseIdx i):=by
 induction l generalizing i with
 |nil=>simp at h|cons x l ih=>
  cases i with
  |zero=>simp at h;subst h;exact OJ _|succ i=>
   simp at h;rw[List.eraseIdx_cons_succ];exact ((ih h).cons x).trans (List.Perm.swap _ _ _)
theorem AAd{l:List Du}{e:Du}(hnb:(l.map (·.born)).Nodup)(hi:l[i]? =AA e):l.filter (λx=>x.born !=e.born)=l.eraseIdx i:=by
 induction l generalizing i with
 |nil=>simp at hi|cons x l ih=>
  rw[BN,IB] at hnb
  cases i with
  |zero=>
   simp at hi;subst hi;rw[XC];simp only[bne_self_eq_false,DC,if_false,List.eraseIdx_zero,List.tail_cons];rw[lN];intro y hy;simp only[bne_iff_ne,ne_eq];intro e2;exact hnb.1 (CG.2 ⟨y,hy,e2⟩)
  |succ i=>
   simp at hi;rw[XC]
   have hx:(x.born !=e.born)=true:=by
    simp only[bne_iff_ne,ne_eq];intro e2;exact hnb.1 (CG.2 ⟨e,Bi hi,e2.symm⟩)
   rw[BU hx,List.eraseIdx_cons_succ];congr 1;exact ih hnb.2 hi
section
variable {κ:Type} {w w':AL} {b r:Nat} {kv:κ->AQ} {m todo:List (κ×AQ)} {L:List Nat}
theorem Je.mp(h:Je w b r kv m todo):Mp w b kv m:=by
 obtain⟨es,clock,_,_,_,hb,he,hn,hs,hc,_⟩:=h;exact⟨es,clock,hb,he,hn,hs,hc⟩
theorem Je.lt(h:Je w b r kv m todo):r<w.heap.size:=by
 obtain⟨es,clock,_,_,_,hb,he,hn,hs,hc,hr,_⟩:=h;exact (Dj.1 hr).1
theorem Je.Ap(h:Je w b r kv m todo)(hc:AZ L w w')(h1:b∉L)(h2:r∉L):Je w' b r kv m todo:=by
 have hl:=h.lt;have hl2:=h.mp.lt;obtain⟨es,clock,since,seen,c0,hb,he,hn,hs,hcl,hr,rest⟩:=h;exact⟨es,clock,since,seen,c0,(hc.block b hl2 h1).trans hb,he,hn,hs,hcl,(hc.block r hl h2).trans hr,rest⟩
theorem Je.left_eq(h:Je w b r kv m todo):w.rangeLeft b r=todo.length:=by
 obtain⟨es,clock,since,seen,c0,hb,_,_,_,_,hr,_,_,_,hl⟩:=h;simp only[World.rangeLeft,hb,hr];have:=congrArg NZ hl;simpa using this
theorem Je.ne(h:Je w b r kv m todo):r≠b:=by
 obtain⟨es,clock,since,seen,c0,hb,_,_,_,_,hr,_⟩:=h;intro e;rw[e,hb] at hr;cases hr
theorem Je.start{P:BM}{t:Am}(h:Mp w b kv m)(ht:P.underlying t=AA (.map k e)):
  ∃w',(Instr.range t (.map (AA b))).run P w=.ok (.pointer (AA ⟨w.heap.size,0,AB⟩)) w'/\Je w' b w.heap.size kv m m/\AZ [] w w'/\w'.heap.size=w.heap.size+1:=by
 have hl:=h.lt;obtain⟨es,clock,hb,he,hn,hs,hc⟩:=h;refine⟨_,run_range_map w t k e b es clock ht hb,⟨es,clock,clock,#[],clock,((MapKept.heap_alloc w _).2 b hl).trans hb,he,hn,hs,hc,(MapKept.heap_alloc w _).1,hc,Bd _,Bd _,?_⟩,(AZ.refl _ _).alloc _,AV⟩;(have:leftOf es #[]=es:=by simp[leftOf]);rw[this,he]
theorem Je.step{P:BM}(h:Je w b r kv m todo)(ty:Am):
  (todo=[]/\(Instr.next (.pointer (AA ⟨r,0,AB⟩)) false ty).run P w=.ok (.tuple #[.bool false]) w)\/
  ∃k v todo' w',(todo.Perm ((k,v)::todo'))/\(Instr.next (.pointer (AA ⟨r,0,AB⟩)) false ty).run P w=.ok (.tuple #[.bool true,kv k,v]) w'/\
   Je w' b r kv m todo'/\AZ [r] w w'/\(Instr.entry (.pointer (AA ⟨r,0,AB⟩))).run P w'=.ok (.tuple #[kv k,v]) w':=by
 have hne:=h.ne;obtain⟨es,clock,since,seen,c0,hb,he,hn,hs,hc,hr,hold,hsc,hsk,hl⟩:=h;rcases run_next_at (P:=P) w ty r b since c0 seen es clock hr hb hold hsc with ⟨h0,hrun⟩|⟨e,AO3,w1,hal,hrun⟩
 ·left;refine⟨?_,hrun⟩;have:=congrArg NZ hl;simp only[DY,WJ] at this;exact RD Aa
 right;have hem:=mem_left AO3;obtain⟨i,hi⟩:=RI AO3;have hil:i<(leftOf es seen).toList.length:=(CP.1 hi).1;have hlen:=congrArg NZ hl;simp only[DY] at hlen;obtain⟨p,hp⟩: ∃p,todo[i]? =AA p:=⟨_,Bo Aa⟩
 have hkv:(e.key,e.val)=(kv p.1,p.2):=by
  have:=congrArg (λl=>l[i]?) hl;simp only[Ba,hi,hp,Fj] at this;exact EF this
 have hnb:((leftOf es seen).toList.map (·.born)).Nodup:=by
  unfold leftOf;rw[fE];exact hs.sublist (List.filter_sublist.map _)
 (have hr1:w1.heap[r]? =AA (.mapIter (AA b) since seen c0):=by rcases hal with rfl|rfl<;>exact hr);(have hb1:w1.heap[b]? =AA (.map es clock):=by rcases hal with rfl|rfl<;>exact hb);have hset:=heap_set (o':=.mapIter (AA b) since (seen.push e.born) clock) hr1;have hb':(setBlock w1 r (.mapIter (AA b) since (seen.push e.born) clock)).heap[b]? =AA (.map es clock):=(hset.2 b (λe1=>hne e1.symm)).trans hb1
 have hleft:(leftOf es (seen.push e.born)).toList=(leftOf es seen).toList.eraseIdx i:=by
  have e1:(leftOf es (seen.push e.born)).toList=(leftOf es seen).toList.filter (λx=>x.born !=e.born):=by
   unfold leftOf;rw[fE,fE,List.filter_filter];refine lQ λx _=>?_;rw[contains_push];cases seen.contains x.born<;>cases hxe:(x.born==e.born)<;>simp[bne,hxe]
  rw[e1];exact AAd hnb hi
 (have AUE:i<todo.length:=by omega);(have hpe:todo[i]=p:=by rw[Bo AUE] at hp;exact EF hp);injection hkv with hk1 hk2;refine⟨p.1,p.2,todo.eraseIdx i,_,?_,by rw[hrun,hk1,hk2],⟨es,clock,since,seen.push e.born,clock,hb',he,hn,hs,hc,hset.1,hold,hsk,hsk,?_⟩,?_,?_⟩;exact ACp hp;rw[hleft,<- Sl,<- Sl,hl]
 ·rcases hal with rfl|rfl<;>exact⟨rfl,rfl,rfl,by simp[setBlock],λi _ hi=>hset.2 i (λe1=>hi (by simp[e1]))⟩
 rw[<- hk1,<- hk2];exact run_entry_at _ r b since seen es clock e hset.1 hb' hem.1 hs
end
section
variable {P:BM} {κ:Type} {w:AL} {ops:Array BX} {rest:List BX} {o:BX} {a:Act} {Q:Exit->Act->AL->Prop} {b r:Nat} {kv:κ->AQ} {m todo:List (κ×AQ)}
theorem PX(hg:o.guard=AB)(x:DU)(t:Am)(hop:o.op=Op.range t x)(ht:P.underlying t=AA (.map k e))(hx:a.eval x=.map (AA b))(h:Mp w b kv m)
  (hK: ∀w',Je w' b w.heap.size kv m m->AZ [] w w'->w'.heap.size=w.heap.size+1->wpList P ops Q rest (a.put o.dst (.pointer (AA ⟨w.heap.size,0,AB⟩))) w'):wpList P ops Q (o::rest) a w:=by
 refine wpList_plain hg λK' hK'=>?_;obtain⟨w',hrun,r1,r2,r3⟩:=Je.start (P:=P) h ht;unfold Oper.wp;simp[BI,hop,hx,hrun,QJ];exact hK' _ _ (hK w' r1 r2 r3)
theorem Qp(hg:o.guard=AB)(it:DU)(hop:o.op=Op.next it false)(hit:a.eval it=.pointer (AA ⟨r,0,AB⟩))(h:Je w b r kv m todo)
  (hDone:todo=[]->wpList P ops Q rest (a.put o.dst (.tuple #[.bool false])) w)
  (hMore: ∀(k:κ) (v:AQ) (todo':List (κ×AQ)) (w':AL),todo.Perm ((k,v)::todo')->Je w' b r kv m todo'->AZ [r] w w'->
   (Instr.entry (.pointer (AA ⟨r,0,AB⟩))).run P w'=.ok (.tuple #[kv k,v]) w'->wpList P ops Q rest (a.put o.dst (.tuple #[.bool true,kv k,v])) w'):wpList P ops Q (o::rest) a w:=by
 refine wpList_plain hg λK' hK'=>?_;unfold Oper.wp;rcases h.step (P:=P) o.type with ⟨h0,hrun⟩|⟨k,v,todo',w',hp,hrun,AUF,hch,hen⟩
 ·simp[BI,hop,hit,hrun,QJ];exact hK' _ _ (hDone h0)
 simp[BI,hop,hit,hrun,QJ];exact hK' _ _ (hMore k v todo' w' hp AUF hch hen)
end
def AAe (g g':NG):Prop:=∀k,(BJ g' k).map (·.2)=(BJ g k).map (·.2)
theorem D6.copied{ib:List Nat}{T:Tr}(h:D6 ib g T)(hc:AAe g g'):D6 ib g' T:=by
 refine⟨λk=>?_,λk d F hd hF n=>?_⟩
 ·have:=congrArg Option.isSome (hc k);rw[yU,yU] at this;rw[this];exact h.top k
 have:=hc k;rw[hd] at this
 cases hg:BJ g k with
 |none=>rw[hg] at this;cases this|some e=>
  rw[hg] at this;simp only[Fj,DR] at this;rw[this];exact h.sub k e F hg hF n
theorem AFN(hn:(g.map Ac).Nodup)(_:(g'.map Ac).Nodup)(h1: ∀p∈g',∃q∈g,q.1=p.1/\q.2.2=p.2.2)(h2:(g'.map Ac).Perm (g.map Ac)):AAe g g':=by
 intro k
 cases hk:BJ g' k with
 |none=>
  have:k∉g.map Ac:=λh=>(Ey.1 hk) (h2.mem_iff.2 h);rw[Ey.2 this]
 |some e=>
  obtain⟨q,hq,e1,e2⟩:=h1 _ (CQ hk);have:=RX hn (show (k,q.2)∈g by rw[<- show q.1=k from e1];exact hq);rw[this];simp only[Fj,DR];exact e2.symm
theorem AH3{κ:Type}[DecidableEq κ]{t:List (κ×α)}{k:κ}(h:k∉t.map Ac)(v:α):Dp t k v=t++[(k,v)]:=by
 unfold Dp;rw[Sr.2 h]
theorem Xp(w:AL)(tb:Nat)(g:NG)(h:Tree w tb g):
  Au Ae 54 #[.map (AA tb)] w λe w'=>∃ob g',e=.returned (.map (AA ob))/\Tree w' ob g'/\(∀x∈EZ ob g',w.heap.size<=x)/\AZ [] w w'/\AAe g g':=by
 have HT:=AO h;have hmm:= @run_makeMap Ae;have hal:AZ [] w (w.alloc (.map #[] 0)):=(AZ.refl _ _).alloc _;have hmp:=h.top.Ap hal BH;have HM:Hid (Mp (w.alloc (.map #[] 0)) w.heap.size IV []):=AO (Mp.made w IV);clear h hal;have k86:= @ATr;go_enter AN8,Tryz.ntmps54;go_wp2_with (at_range;refine PX rfl _ _ rfl Iy rfl hmp ?_;intro w0 hit0 hc0 hs0)
 go_frame
 obtain⟨ob,hob⟩: ∃ob,w.heap.size=ob:=⟨_,rfl⟩;obtain⟨r,hr⟩: ∃r,(w.alloc (.map #[] 0)).heap.size=r:=⟨_,rfl⟩;rw[hr] at hit0;have hc1:AZ [] w w0:=((AZ.refl [] w).alloc _).Ah hc0;(have hm0:Mp w0 ob IV []:=by rw[<- hob];exact HM.out.Ap hc0 BH);rw[hr,hob];(have hrl:w.heap.size<=r:=by rw[<- hr];simp);(have hne:r∉[ob]:=by rw[<- hr,<- hob];simp);(have hnt:r∉EZ tb g:=λhm=>by have:=HT.out.lt r hm;rw[<- hr] at this;simp at this;omega);(have hol:w.heap.size<=ob:=by omega);(have hot:tb≠ob:=by have:=HT.out.top.lt;omega);have HA:=AO (show w.heap.size<=r/\r∉[ob]/\r∉EZ tb g/\w.heap.size<=ob/\tb≠ob from ⟨hrl,hne,hnt,hol,hot⟩);clear hrl hne hnt hol hot;go_loopw [4] (λ_ wr=>∃done todo g',Je wr tb r IV (FI g) todo/\(done++todo).Perm (FI g)/\Tree wr ob g'/\(∀x∈EZ ob g',w.heap.size<=x)/\AZ [] w wr/\(∀p∈g',∃q∈g,q.1=p.1/\q.2.2=p.2.2)/\g'.map Ac=done.map Ac) (λ_ wr=>wr.rangeLeft tb r)
 case atStart=>
  exact⟨[],FI g,[],hit0,OJ _,⟨hm0,AV,AV⟩,by simp[EZ];exact HA.out.2.2.2.1,hc1,AV,rfl⟩
 obtain⟨done,todo,g',hit,hperm,htr,hnew,hch,hcp,hks⟩:=hrel;have HP:=AO hperm;have ku:=AO htr;have HN:=AO hnew;have DJ:=AO hch;have iC:=AO hcp;have HKS:=AO hks;have HIT:=AO hit;clear hperm htr hnew hch hcp hks;go_wp2_with (at_next;refine Qp rfl _ rfl rfl hit ?_ ?_)
 ·intro hdone;have HD:=AO hdone;clear hdone;go_wp2;go_ret;have hp:=HP.out;rw[HD.out,Ii] at hp;have hn:=ku.out.nodup;refine⟨ob,g',rfl,ku.out,HN.out,DJ.out,AFN HT.out.nodup hn iC.out ?_⟩;rw[HKS.out,<- PV];exact hp.map _
 intro k v todo' w1 hp AGl VD hen;have hkv:(k,v)∈FI g:=HP.out.mem_iff.1 (GN _ (hp.mem_iff.2 (Ee ..)));obtain⟨q,hq,hqe⟩:=CG.1 hkv;injection hqe with hq1 hq2;subst hq1;subst hq2
 have hkn:q.1∉g'.map Ac:=by
  rw[HKS.out];intro hm;have hnd:=(HP.out.map Ac).nodup_iff.2 (by rw[PV];exact HT.out.nodup);rw[FK,OH] at hnd;exact hnd.2.2 _ hm _ (((hp.map Ac).mem_iff).2 AV) rfl
 have hne1:=HIT.out.ne;have AFO:AZ [] w w1:=DJ.out.trans VD (λx hx=>by simp only[CB] at hx;subst hx;exact .inr HA.out.1);have hsub:=(HT.out.sub q hq).Ap AFO BH
 have AO4:=ku.out.keep VD (λx hx hm=>by
  simp only[CB] at hm;subst hm;rcases BF.1 hx with rfl|hx;exact HA.out.2.1 AV;obtain⟨p,hp',rfl⟩:=CG.1 hx;have h1:=(ku.out.sub p hp');obtain⟨es,c,hb,_⟩:=h1;obtain⟨_,_,_,_,_,_,_,_,_,_,hbr,_⟩:=HIT.out
  rw[hb] at hbr;cases hbr)
 have WW:=AO hsub;have qU:=AO hp;have HKN:=AO hkn;have CZ:=AO AFO;have dO:=AO AO4;have xI:=AO AGl;have HQ:=AO hq;clear hp hkv hkn VD AFO AO4 hq hit hsub;(go_wp2_with fail);refine (ACd w1 q.2.1 _ WW.out).mono ?_;rintro e w2 ⟨rfl,hm2,hc2⟩;obtain⟨w3,hu,hm3,hc3⟩:=Mp.update (dO.out.top.Ap hc2 BH) (Cm Kv) Iy q.1 (.map (AA w1.heap.size));have qV:AZ [ob] w1 w3:=(hc2.nil [ob]).trans hc3 (λx hx=>.inl hx);have hlo:=dO.out.top.lt;(have hwo:w1.heap.size≠ob:=by omega);have hro:=HA.out.2.1;have AUG:=AO (Tree.put (d:=q.1) (fb:=w1.heap.size) (f:=q.2.2) dO.out.nodup dO.out.sub dO.out.apart qV hm3 (hm2.Ap hc3 (by simpa using hwo)) (by simpa using hwo) (λp hp _=>by have:=(dO.out.sub p hp).lt;omega) (λp hp _=>by simpa using dO.out.Lp hp));have hlt:=xI.out.lt;have AGm:=AO (xI.out.Ap qV (by simpa using HA.out.2.2.2.2) hro);have Gg:Hid (AZ [] w w3):=AO (CZ.out.trans qV (λx hx=>by simp only[CB] at hx;subst hx;exact .inr HA.out.2.2.2.1));have Qq:Hid (w.heap.size<=w1.heap.size):=AO CZ.out.size;clear hm2 hc2 hm3 hc3 qV hlo hwo hro hlt hne1;go_wp2;go_roundw
 case rel=>
  refine⟨done++[(q.1,Value.map (AA q.2.1))],todo',Dp g' q.1 (w1.heap.size,q.2.2),AGm.out,?_,AUG.out,?_,Gg.out,?_,?_⟩
  ·rw[KJ];exact (ae done qU.out.symm).trans HP.out
  ·intro x hx;rcases OA (B:=w.heap.size) dO.out.nodup (.inr Qq.out) x hx with h|h;exact HN.out x h;exact h
  ·intro p hp;rcases (J7 dO.out.nodup).1 hp with rfl|⟨hp,_⟩;exact⟨q,HQ.out,rfl,rfl⟩;exact iC.out p hp
  rw[AH3 HKN.out,FK,FK,HKS.out];rfl
 have h1:=AGm.out.left_eq;have h2:=HIT.out.left_eq;have h3:=qU.out.length_eq;rw[h1,h2,h3];simp
def UH {α:Type} (c:α->Nat) (F:List (ByteArray×α)) (ks:List ByteArray):Nat:=(ks.map λn=>((BJ F n).map c).getD 0).sum
theorem PY{c:α->Nat}{F:List (ByteArray×α)}{a b:List ByteArray}(h:a.Perm b):UH c F a=UH c F b:=(h.map _).sum_nat
theorem Lu{c:α->Nat}{F:List (ByteArray×α)}(a b:List ByteArray):UH c F (a++b)=UH c F a+UH c F b:=by simp[UH]
theorem YX{c:α->Nat}{F:List (ByteArray×α)}{n:ByteArray}{x:α}(h:BJ F n=AA x):UH c F [n]=c x:=by simp[UH,h]
theorem xJ(c:α->Nat){F:List (ByteArray×α)}(hn:(F.map Ac).Nodup):UH c F (F.map Ac)=(F.map λq=>c q.2).sum:=by
 unfold UH;rw[En];congr 1;refine Hm λq hq=>?_;simp only[Yo];rw[LU hn hq];rfl
theorem ACq(l:List α)(f:α->Nat)(M:Nat)(h: ∀x∈l,f x<=M):(l.map f).sum<=l.length*M:=by
 induction l with
 |nil=>simp|cons x r ih=>
  simp only[BN,Bz,EY];have h1:=h x AV;have h2:=ih (λy hy=>h y (DD _ hy));rw[lK,Nat.one_mul];omega
def St.len (S:St) (i:Nat):Nat:=(S.bytes i).length
def St.ZA (S:St) (F:KH):Nat:=(F.map λq=>S.len q.2).sum
theorem Inv.len{B:Nat}{S:St}(h:Inv B S)(i:Nat):S.len i<=B:=by
 unfold St.len St.bytes;rw[Gj]
 cases hf:S.files[i]? with
 |none=>simp[FY.all]|some f=>
  have h1:=AGi (Bi hf);have h2:=h.bulk;simp only[Dx];omega
theorem ACr(hd:S.down=false):S.used=(S.seen.map λp=>S.ZA p.2).sum:=by
 unfold St.used St.view bytesOf;rw[BL (by simp[hd]),En];congr 1;refine Hm λp _=>?_;simp only[Yo];rw[En];rfl
theorem AAf(h:Inv B S)(T:Tr):(T.map λp=>S.ZA p.2).sum<=wd T*B:=by
 unfold wd
 induction T with
 |nil=>simp|cons p r ih=>
  simp only[BN,Bz,lK];have h1:S.ZA p.2<=p.2.length*B:=ACq _ _ B (λq _=>h.len q.2);omega
theorem ACs(h:Inv B S):S.used<=B*B:=by
 cases hd:S.down with
 |true=>unfold St.used St.view;rw[BU hd];simp[bytesOf]|false=>
  rw[ACr hd];exact Cj (AAf h S.seen) (Td _ h.wd)
theorem EJ.ASO{G:Bh}(h:EJ w G S)(hi:i<S.files.length): ∃g,Bv w (ED G.ib i) 126 #[.pointer (AA ⟨g,0,AB⟩)]/\Au Ae 181 #[.pointer (AA ⟨g,0,AB⟩)] w (λe w'=>e=.returned (.int .i64 (S.len i:Nat))/\w'=w):=by
 have hf:S.files[i]? =AA S.files[i]:=Bo hi;obtain⟨x,g,L,h1,h2,h3,h4,h5⟩:=h.at_ hf;refine⟨g,by rw[AAY h1];exact h4,size_any g L _ _ w h5 _ ?_⟩;unfold St.len St.bytes;rw[Gj,hf];simp[FY.all]
theorem AK3{G:Bh}(h:EJ w G S)(hi:Inv B S)(hB:B<=1073741824):
  Au Ae 179 #[.pointer (AA ⟨G.b,0,AB⟩)] w λe w'=>e=.returned (.int .i64 (S.used:Int))/\AZ [] w w':=by
 have HF:=AO h;have HI:=AO hi
 have hU:S.used<=1152921504606846976:=by
  have h1:=ACs hi;have h2:B*B<=1073741824*1073741824:=AF1 hB hB;omega
 have HU:=AO hU;clear h hi hB hU;have k61:= @AKd;have AVd:= @ARS;go_enter AKS,Tryz.ntmps179;(go_wp2_with fail);refine (ACl HF.out).mono ?_;rintro e w1 ⟨rfl,hc1⟩;have CZ:=AO hc1
 cases hd:S.down with
 |true=>
  have HR:Hid (S.used=0):=AO (by unfold St.used St.view;rw[BU hd];rfl);clear hc1 hd;go_wp2;go_ret;exact⟨by rw[HR.out];rfl,CZ.out⟩
 |false=>
  have HR:Hid (S.used=(S.seen.map λp=>S.ZA p.2).sum):=AO (ACr hd);have Gf:=AO (HF.out.Cc hc1);have h0:=Gf.out.blk.cell 0;simp at h0;have hmp:=Gf.out.Ff.top;clear hc1 hd;go_wp2_with (at_range;refine PX rfl _ _ rfl Iy rfl hmp ?_;intro w0 hit0 hc0 hs0)
  go_frame
  obtain⟨r,hr⟩: ∃r,w1.heap.size=r:=⟨_,rfl⟩;rw[hr] at hit0⊢;have TC:Hid (AZ [] w w0):=AO (CZ.out.Ah hc0);have HRR:Hid (w.heap.size<=r):=AO (by rw[<- hr];exact CZ.out.size);clear hr hs0 hc0 h0 hmp
  have htot:UH S.ZA S.seen (G.g1.map Ac)=S.used:=by
   rw[HR.out,PY (HF.out.Lt.keys HF.out.Ff.nodup HI.out.val.VA),xJ _ HI.out.val.VA.nodup]
  have AGn:=AO htot;clear htot;go_loopw [2,4] (λs _ wr=>∃done todo,∃N:Nat,s=.int .i64 N/\Je wr G.t1 r IV (FI G.g1) todo/\(done++todo).Perm (FI G.g1)/\AZ [] w wr/\N=UH S.ZA S.seen (done.map Ac)) (λ_ _ wr=>wr.rangeLeft G.t1 r)
  case atStart=>exact⟨[],FI G.g1,0,rfl,hit0,OJ _,TC.out,rfl⟩
  obtain⟨done,todo,N,rfl,hit,hperm,hch,hN⟩:=hrel;have HP:=AO hperm;have DJ:=AO hch;have HN:=AO hN;have HIT:=AO hit;clear hperm hch hN;go_wp2_with (at_next;refine Qp rfl _ rfl rfl hit ?_ ?_)
  ·intro hdone;have HD:=AO hdone;clear hdone;go_wp2;go_ret;have hp:=HP.out;rw[HD.out,Ii] at hp;refine⟨?_,DJ.out⟩;rw[HN.out,PY (hp.map Ac),PV,AGn.out];rfl
  intro k v todo' w2 hp AGl VD hen;have hkv:(k,v)∈FI G.g1:=HP.out.mem_iff.1 (GN _ (hp.mem_iff.2 (Ee ..)));obtain⟨q,hq,hqe⟩:=CG.1 hkv;injection hqe with hq1 hq2;subst hq1;subst hq2;have hgq:=LU HF.out.Ff.nodup hq
  obtain⟨F,hF⟩: ∃F,BJ S.seen q.1=AA F:=by
   have:=HF.out.Lt.top q.1;rw[hgq] at this;exact AF2.1 this.symm
  have hsub:=HF.out.Lt.sub _ _ _ hgq hF;have hSF:Oj F:=HI.out.val.sub _ (CQ hF)
  have hall:UH S.len F ((q.2.2).map Ac)=S.ZA F:=by
   rw[PY (gz hsub (HF.out.Ff.Rx hq) hSF),xJ _ hSF.nodup];rfl
  have hle:N+S.ZA F<=S.used:=by
   have e1:=PY (c:=S.ZA) (F:=S.seen) (((ae done hp.symm).trans HP.out).map Ac);rw[PV,AGn.out,FK,BN,Lu] at e1;rw[show (q.1::todo'.map Ac)=[q.1]++todo'.map Ac from rfl,Lu,YX hF] at e1;have:=HN.out;omega
  have hC2:AZ [] w w2:=DJ.out.trans VD (λx hx=>by simp only[CB] at hx;subst hx;exact .inr HRR.out);have hmq:=(HF.out.Ff.sub q hq).Ap hC2 BH;have HC2:=AO hC2;have WW:=AO hsub;have LQ:=AO hall;have HLE:=AO hle;have qU:=AO hp;have xI:=AO AGl;have Wp:=AO hF;have HQ:=AO hq;clear hkv hgq hF hsub hSF hall hle hC2 hp hit AGl VD hq;go_wp2_with (at_range;refine PX rfl _ _ rfl PO rfl hmq ?_;intro w3 hit3 hc3 hs3)
  go_frame
  obtain⟨r2,hr2⟩: ∃r2,w2.heap.size=r2:=⟨_,rfl⟩;rw[hr2] at hit3⊢;have Gg:Hid (AZ [] w w3):=AO (HC2.out.Ah hc3)
  have HR2:Hid (w.heap.size<=r2/\r≠r2/\G.t1≠r2):=AO (by
   have h1:=HC2.out.size;have h2:=xI.out.lt;have h3:=xI.out.mp.lt
   refine⟨Aa,Aa,Aa⟩)
  have AGm:Hid (Je w3 G.t1 r IV (FI G.g1) todo'):=AO (xI.out.Ap hc3 BH BH);clear hr2 hs3 hc3 hmq hen;go_loopw [2,6] (λs _ wr=>∃done2 AFP,∃M:Nat,s=.int .i64 ((N+M:Nat):Int)/\Je wr q.2.1 r2 IV (Ip q.2.2) AFP/\Je wr G.t1 r IV (FI G.g1) todo'/\(done2++AFP).Perm (Ip q.2.2)/\AZ [] w wr/\M=UH S.len F (done2.map Ac)) (λ_ _ wr=>wr.rangeLeft q.2.1 r2)
  case atStart=>exact⟨[],Ip q.2.2,0,rfl,hit3,AGm.out,OJ _,Gg.out,rfl⟩
  obtain⟨done2,AFP,M,rfl,AK4,AO5,AGo,AO6,hM⟩:=hrel;have HP2:=AO AGo;have AO7:=AO AO6;have HM:=AO hM;have AUH:=AO AK4;have AK5:=AO AO5;clear AGo AO6 hM AO5;go_wp2_with (at_next;refine Qp rfl _ rfl rfl AK4 ?_ ?_)
  ·intro hdone;have HD:=AO hdone;clear hdone;go_wp2;go_roundw
   case rel=>
    refine⟨done++[(q.1,Value.map (AA q.2.1))],todo',N+M,rfl,AK5.out,(KJ done _ _▸(ae done qU.out.symm).trans HP.out),AO7.out,?_⟩;have hp2:=HP2.out;rw[HD.out,Ii] at hp2;rw[FK,Lu,BN,EG,YX Wp.out,HM.out,PY (hp2.map Ac),Rw,LQ.out,HN.out]
   have h1:=AK5.out.left_eq;have h2:=HIT.out.left_eq;have h3:=qU.out.length_eq;rw[h1,h2,h3];simp
  intro k2 v2 AAg w4 hp2 AO8 AK6 AVe;have AO9:(k2,v2)∈Ip q.2.2:=HP2.out.mem_iff.1 (GN _ (hp2.mem_iff.2 (Ee ..)));obtain⟨p,hp,hpe⟩:=CG.1 AO9;injection hpe with hp1 hpv;subst hp1;subst hpv;have hgp:=LU (HF.out.Ff.Rx HQ.out) hp
  obtain⟨i,hi,hix⟩: ∃i,BJ F p.1=AA i/\ED G.ib i=p.2:=by
   have:=WW.out p.1;rw[hgp] at this
   cases hFi:BJ F p.1 with|none=>rw[hFi] at this;cases this|some i=>rw[hFi] at this;injection this with this;exact⟨i,rfl,this.symm⟩
  have hil:=HI.out.val.ids _ (CQ Wp.out) _ (CQ hi);have hC4:AZ [] w w4:=AO7.out.trans AK6 (λx hx=>by simp only[CB] at hx;subst hx;exact .inr HR2.out.1);obtain⟨sg,hb4,hsz⟩:=(HF.out.Cc hC4).ASO hil;rw[hix] at hb4;have c0:=hb4.cell 0;simp at c0
  have hle2:M+S.len i<=S.ZA F:=by
   have e1:=PY (c:=S.len) (F:=F) (((ae done2 hp2.symm).trans HP2.out).map Ac);rw[Rw,LQ.out,FK,BN,Lu] at e1;rw[show (p.1::AAg.map Ac)=[p.1]++AAg.map Ac from rfl,Lu,YX hi] at e1;have:=HM.out;omega
  have hwr:wrap64 ((N:Int)+(M:Int)+(S.len i:Nat))=((N+(M+S.len i):Nat):Int):=by
   have h1:=HLE.out;have h2:=HU.out;unfold wrap64;omega
  have HWR:=AO hwr;clear hwr;have OC:=AO hC4;have HP5:=AO hp2;have APA:=AO AO8;have AUI:Hid (Je w4 G.t1 r IV (FI G.g1) todo'):=AO (AK5.out.Ap AK6 (by simpa using HR2.out.2.2) (by simpa using HR2.out.2.1));have HII:=AO hi;have Qq:=AO hsz;clear AO9 hgp hi hix hil hC4 hb4 hle2 hp2 AK4 AO8 AK6 hp hsz;(go_wp2_with fail);refine Qq.out.mono ?_;rintro e w5 ⟨rfl,rfl⟩;go_wp2;go_roundw
  case rel=>
   refine⟨done2++[(p.1,QL (AA ⟨p.2,0,AB⟩))],AAg,M+S.len i,(congrArg (Jq .i64) HWR.out),APA.out,AUI.out,(KJ done2 _ _▸(ae done2 HP5.out.symm).trans HP2.out),OC.out,?_⟩;rw[FK,Lu,BN,EG,YX HII.out,HM.out]
  have h1:=APA.out.left_eq;have h2:=AUH.out.left_eq;have h3:=HP5.out.length_eq;rw[h1,h2,h3];simp
end
section
variable {ib:List Nat}{B i:Nat}{S:St}{w w0:AL}
def dP (e:Am) (w:AL) (xs:List AQ) (n:Nat) (code:Int) (en:Fe) (w':AL):Prop:=
 ∃A c,en=.returned (.tuple #[.slice A n c,.int .i64 code])/\Own w' e 1 A n c xs/\AZ [] w w'/\∀k∈bo A,w.heap.size<=k
theorem Lay.others{Ps:List (List Nat)}(h:Lay w Ps){L:List Nat}{is:List Nat}(hL: ∀x∈L,∃j P,j∈is/\Ps[j]? =AA P/\x∈P){P:List Nat}(hi:Ps[i]? =AA P)(hn:i∉is): ∀x∈P,x∉L:=by
 intro x hx hm;obtain⟨j,Q,hj,hQ,hxq⟩:=hL x hm;exact h.ne hi hQ (λe=>hn (e▸hj)) x hx hxq
theorem jh:S.names=if S.ask false []≠0 then (S,S.ask false []) else ({S with safe:=S.seen,EW:=[],steps:=S.steps+1},0):=by
 unfold St.names St.ask;cases hd:S.down<;>simp
theorem xK{G:Bh}(h:EJ w G S)(hi:Inv B S)(hB:B<=1073741824):
  Au Ae 50 #[.pointer (AA ⟨G.b,0,AB⟩)] w λe w'=>e=.returned (.int .i64 S.names.2)/\DK w G S.names.1 w':=by
 have HF:=AO h;have HI:=AO hi;(have hwt:IntKind.i64.wrap ((S.steps:Int)+1)=((S.steps+1:Nat):Int):=by have:=hi.st;rw[NY];omega);clear h hi hB;have k54:= @AKc;have k70:= @jc;go_enter AN4,Tryz.ntmps50;(go_wp2_with fail);refine (Vy HF.out false AB 0 0 [] (Rd.nil w 1) Aq AV).mono ?_;rintro e w1 ⟨rfl,hc1⟩;have CZ:=AO hc1;obtain⟨E,hE⟩: ∃E,S.ask false []=E:=⟨_,rfl⟩;rw[hE];have HE:=AO hE;clear hE;by_cases h:E=0
 ·subst h;have Gf:=AO (HF.out.Cc hc1);have h0:=Gf.out.blk.cell 0;simp at h0;have HR:Hid (S.names=({S with safe:=S.seen,EW:=[],steps:=S.steps+1},0)):=AO (by rw[jh,BL (by rw[HE.out];simp)]);clear hc1;(go_wp2_with fail);refine (Xp w1 G.t1 G.g1 Gf.out.Ff).mono ?_;rintro e w2 ⟨ob,g',rfl,htr,hnew,hc2,hcp⟩;have HF2:=AO (Gf.out.Cc hc2);have c1:=HF2.out.blk.frozen 1;have x1:=HF2.out.blk.cell 1;have x2:=HF2.out.blk.cell 2;simp at x1 x2;have hb2:=HF2.out.blk.FH 1 (.map (AA ob));have c2:=hb2.frozen 2;have hb3:=hb2.FH 2 (.slice AB 0 0);have c6:=hb3.cell 6;have f6:=hb3.frozen 6;have hb4:=hb3.FH 6 (.int .i64 ((S.steps+1:Nat):Int));simp at c6;have HB4:=AO hb4;have ku:=AO htr;have HN:=AO hnew;have HC2:=AO hc2;have iC:=AO hcp;clear htr hnew hc2 hcp hb2 hb3 hb4;go_wp2;go_ret;refine⟨by rw[HR.out];rfl,?_⟩;rw[HR.out];have hF:=HF2.out;obtain⟨w3,hw3⟩: ∃w3,((w2.setCell ⟨G.b,1,AB⟩ (.map (AA ob))).setCell ⟨G.b,2,AB⟩ (.slice AB 0 0)).setCell ⟨G.b,6,AB⟩ (.int .i64 ((S.steps+1:Nat):Int))=w3:=⟨_,rfl⟩;have hb:=HB4.out;(have hch:AZ [G.b] w2 w3:=by rw[<- hw3];exact (((AZ.refl [G.b] w2).setCell (.inl AV) _).setCell (.inl AV) _).setCell (.inl AV) _);have AUJ:=hw3;rw[AUJ] at hb;show DK w G _ (((w2.setCell ⟨G.b,1,AB⟩ (.map (AA ob))).setCell ⟨G.b,2,AB⟩ (.slice AB 0 0)).setCell ⟨G.b,6,AB⟩ (.int .i64 ((S.steps+1:Nat):Int)));rw[hw3];have hL: ∀x∈[G.b],∃j P,j∈[0]/\G.parts[j]? =AA P/\x∈P:=λx hx=>⟨0,[G.b],AV,rfl,hx⟩;have ho:=λ(i:Nat) (P:List Nat) (hi:G.parts[i]? =AA P) (hne:i∉[0])=>hF.lay.others hL hi hne;have hG2:=Gf.out.lay.FH (w':=w2) (i:=2) (P':=EZ ob g') rfl (λx hx=>.inr (HN.out x hx)) ku.out.lt HC2.out.size;have hG3:=hG2.FH (w':=w3) (i:=3) (P:=bo G.A) (P':=[]) rfl AV AV hch.size;refine⟨{G with t2:=ob,g2:=g',A:=AB,c:=0,vs:=[]},⟨by simpa using hb,hF.Ff.keep hch (ho 1 _ rfl AV),hF.Lt,ku.out.keep hch (λx hx hm=>?_),hF.Lt.copied iC.out,Own.nil _ _ _,?_,hF.kY.Ap hch (ho 4 _ rfl AV),hF.Qo,hF.Yv,hF.Yw,hF.Zt,hF.Wn,?_,hG3⟩,rfl,?_,?_⟩
  ·exact hG2.ne (i:=2) (j:=0) (P:=EZ ob g') (Q:=[G.b]) rfl rfl Aq x hx hm
  intro i c v e1 e2;simp at e1
  ·intro i x g L f e1 e2 e3 e4;exact (hF.ino i x g L f e1 e2 e3 e4).keep hch (ho 5 _ rfl AV x (hF.Wn x (Bi e1))) (ho (i+6) L (by simpa[Bh.parts] using e3) AV)
  ·intro x hx;obtain⟨P,hP,hx⟩:=OL.1 hx;simp only[Bh.parts,BF] at hP;rcases hP with rfl|rfl|rfl|rfl|hP;exact .inl (Bh.Fg (i:=0) rfl hx);exact .inl (Bh.Fg (i:=1) rfl hx);exact .inr (Cj CZ.out.size (HN.out x hx));simp at hx;exact .inl (OL.2 ⟨P,by simp only[Bh.parts,BF];exact .inr (.inr (.inr (.inr hP))),hx⟩)
  exact (((CZ.out.Ah HC2.out).nil [G.b]).trans hch (λx hx=>.inl hx)).mono (λx hx=>.inl (Bh.Fg (i:=0) rfl hx))
 (have hb:(E !=0)=true:=by simp[h]);have HR:Hid (S.names=(S,E)):=AO (by rw[jh,HE.out,BU h]);clear h;go_wp2;go_ret;exact⟨by rw[HR.out];rfl,by rw[HR.out];exact DK.same HF.out CZ.out⟩
theorem qW:S.NF=if S.ask false []≠0 then ([],S.ask false []) else (S.seen.map Ac,0):=by
 unfold St.NF St.ask;cases hd:S.down<;>simp
theorem Xq{x:ByteArray}(h:CO x=true):x.size<=ER:=by have:=AFE h;unfold ER;omega
theorem ZB{tb:Nat}{g:NG}{T:Tr}{m:Nat}(ht:Tree w0 tb g)(hi:D6 ib g T)(hv:Val m T)(hl:T.length<=1073741824)(hw:w=w0):
  Au Ae 87 #[.func (.func 124) #[] #[.pointer (AA ⟨w0.heap.size,0,AB⟩)]] (w.alloc (.cells #[.map (AA tb)] 112)) (Lm 9 1 w0 (OB (T.map Ac)) T.length):=by
 subst hw;have hp:=hi.keys ht.nodup hv.VA;(have hlen:(FI g).length=T.length:=by have:=hp.length_eq;simpa[FI] using this);have hs:VA ((FI g).map Ac)=T.map Ac:=AGg (by rw[PV];exact hp) hv.VA
 have:=AAO w tb (FI g) ht.top (λp hp2=>by
  have:p.1∈T.map Ac:=hp.mem_iff.1 (by rw[<- PV];exact CG.2 ⟨p,hp2,rfl⟩);obtain⟨q,hq,e⟩:=CG.1 this
  rw[<- e];exact Xq (hv.nm q hq)) Aa
 rw[hs,hlen] at this;refine this.mono ?_;rintro e w' ⟨A,c,rfl,ho,hc,hn⟩;exact⟨A,c,rfl,ho,(((AZ.refl [] w).alloc _).Ah hc),λk hk=>Cj AV (hn k hk)⟩
theorem ZC{fb:Nat}{f:List (ByteArray×Nat)}{F:KH}(hf:Mp w0 fb IV (Ip f))(hi: ∀n,BJ f n=(BJ F n).map (ED ib))(hs:Oj F)(hg: ∀q∈F,CO q.1=true)(hl:F.length<=1073741824)(hw:w=w0):
  Au Ae 87 #[.func (.func 125) #[] #[.pointer (AA ⟨w0.heap.size,0,AB⟩)]] (w.alloc (.cells #[.map (AA fb)] 130)) (Lm 9 1 w0 (OB (F.map Ac)) F.length):=by
 subst hw;(have hn:(f.map Ac).Nodup:=by rw[<- Rw];exact hf.nodup);have hp:=gz hi hn hs;(have hlen:(Ip f).length=F.length:=by have:=hp.length_eq;simpa[Ip] using this);have hs:VA ((Ip f).map Ac)=F.map Ac:=AGg (by rw[Rw];exact hp) hs
 have:=AAP w fb (Ip f) hf (λp hp2=>by
  have:p.1∈F.map Ac:=hp.mem_iff.1 (by rw[<- Rw];exact CG.2 ⟨p,hp2,rfl⟩);obtain⟨q,hq,e⟩:=CG.1 this
  rw[<- e];exact Xq (hg q hq)) Aa
 rw[hs,hlen] at this;refine this.mono ?_;rintro e w' ⟨A,c,rfl,ho,hc,hn⟩;exact⟨A,c,rfl,ho,(((AZ.refl [] w).alloc _).Ah hc),λk hk=>Cj AV (hn k hk)⟩
theorem AK7{G:Bh}(h:EJ w G S)(hi:Inv B S)(hB:B<=1073741824):
  Au Ae 95 #[.pointer (AA ⟨G.b,0,AB⟩)] w (dP 9 w (OB S.NF.1) S.NF.1.length S.NF.2):=by
 have HF:=AO h;have HI:=AO hi;have HB:=AO (show S.seen.length<=1073741824 by have:=hi.wd;have:=AAS S.seen;omega);clear h hi hB;have k70:= @jc;have k87:= @AKh;have k88:= @AOr;go_enter AOW,Tryz.ntmps95;(go_wp2_with fail);refine (Vy HF.out false AB 0 0 [] (Rd.nil w 1) Aq AV).mono ?_;rintro e w1 ⟨rfl,hc1⟩;have CZ:=AO hc1;obtain⟨E,hE⟩: ∃E,S.ask false []=E:=⟨_,rfl⟩;rw[hE];have HE:=AO hE;clear hE;by_cases h:E=0
 ·subst h;have Gf:=AO (HF.out.Cc hc1);have h0:=Gf.out.blk.cell 0;simp at h0;have HR:Hid (S.NF=(S.seen.map Ac,0)):=AO (by rw[qW,BL (by rw[HE.out];simp)]);clear hc1;(go_wp2_with fail);refine (qH (AA G.t1) w1).mono ?_;rintro e w2 ⟨rfl,hw2⟩;have HW2:=AO hw2;clear hw2;(go_wp2_with fail);rw[HW2.out];refine (ZB Gf.out.Ff Gf.out.Lt HI.out.val HB.out rfl).mono ?_;rintro e w3 ⟨A,c,rfl,ho,hc3,hn3⟩;have HO:=AO ho;have Gg:=AO hc3;have HN3:=AO hn3;clear ho hc3 hn3;go_wp2
  go_ret2
  rw[HR.out];refine⟨A,c,by rw[DY];rfl,by rw[DY];exact HO.out,CZ.out.Ah Gg.out,λk hk=>Cj CZ.out.size (HN3.out k hk)⟩
 (have hb:(E !=0)=true:=by simp[h]);have HR:Hid (S.NF=([],E)):=AO (by rw[qW,HE.out,BU h]);clear h;go_wp2
 go_ret2
 rw[HR.out];exact⟨AB,0,rfl,Own.nil _ _ _,CZ.out,AV⟩
theorem AK8{G:Bh}(h:EJ w G S)(hi:Inv B S)(hB:B<=1073741824)(d:ByteArray):
  Au Ae 97 #[.pointer (AA ⟨G.b,0,AB⟩),.string d] w (dP 9 w (OB (S.list d).1) (S.list d).1.length (S.list d).2):=by
 have HF:=AO h;have HI:=AO hi;have HB:=AO (show ∀p∈S.seen,p.2.length<=1073741824 from λp hp=>by have:=hi.wd;have:=AAT hp;omega);clear h hi hB;have k70:= @jc;have k87:= @AKh;have k89:= @AOs;go_enter AOY,Tryz.ntmps97;(go_wp2_with fail);have hal:AZ [] w (w.alloc (.cells #[.string d] 9)):=(AZ.refl _ _).alloc _;refine (Vy (HF.out.Cc hal) true _ 1 1 [d] (by simpa[OB] using (Own.lit w 9 1 #[.string d] 1 Aq rfl).rd) Aq AV).mono ?_;rintro e w1 ⟨rfl,hc1⟩;have CZ:=AO (hal.Ah hc1);clear hc1 hal;obtain⟨E,hE⟩: ∃E,S.ask true [d]=E:=⟨_,rfl⟩;rw[hE];have HE:=AO hE;clear hE;by_cases h:E=0
 ·subst h;have Gf:=AO (HF.out.Cc CZ.out);obtain⟨F,hF⟩:=(Ht HE.out).2.2 rfl;simp only[Rj] at hF;obtain⟨g,hg,hsub⟩:=HF.out.Lt.get hF;have h0:=Gf.out.blk.cell 0;simp at h0;have hl:=(Mp.lookup Gf.out.Ff.top (Cm Kv) Iy (z:=.map AB) Az d).1;simp only[Ez,hg,Fj,Dx] at hl;have WW:=AO hsub;have Wp:=AO hF;have HG:=AO hg;have HR:Hid (S.list d=(F.map Ac,0)):=AO (by unfold St.list;rw[BL (by rw[HE.out];simp),FT hF]);clear hsub hF hg;(go_wp2_with fail);refine (qI (AA g.1) w1).mono ?_;rintro e w2 ⟨rfl,hw2⟩;have HW2:=AO hw2;clear hw2;(go_wp2_with fail);rw[HW2.out];refine (ZC (Gf.out.Ff.sub _ (CQ HG.out)) WW.out (HI.out.val.sub _ (CQ Wp.out)) (HI.out.val.nms _ (CQ Wp.out)) (HB.out _ (CQ Wp.out)) rfl).mono ?_;rintro e w3 ⟨A,c,rfl,ho,hc3,hn3⟩;have HO:=AO ho;have Gg:=AO hc3;have HN3:=AO hn3;clear ho hc3 hn3;go_wp2
  go_ret2
  rw[HR.out];refine⟨A,c,by rw[DY];rfl,by rw[DY];exact HO.out,CZ.out.Ah Gg.out,λk hk=>Cj CZ.out.size (HN3.out k hk)⟩
 (have hb:(E !=0)=true:=by simp[h]);have HR:Hid (S.list d=([],E)):=AO (by unfold St.list;rw[HE.out,BU h]);clear h;go_wp2
 go_ret2
 rw[HR.out];exact⟨AB,0,rfl,Own.nil _ _ _,CZ.out,AV⟩
theorem EJ.spo{G:Bh}(h:EJ w G S)(hi:i<S.files.length): ∃g L,G.Ls[i]? =AA L/\Bv w (ED G.ib i) 126 #[.pointer (AA ⟨g,0,AB⟩)]/\Wj w g L (S.files.getD i ([],[])).1 (S.files.getD i ([],[])).2/\G.sg[i]? =AA g/\G.ib[i]? =AA (ED G.ib i):=by
 have hf:S.files[i]? =AA S.files[i]:=Bo hi;obtain⟨x,g,L,h1,h2,h3,h4,h5⟩:=h.at_ hf;refine⟨g,L,h3,by rw[AAY h1];exact h4,?_,h2,by rw[AAY h1];exact h1⟩;rw[Gj,hf];exact h5
theorem Inv.ET(h:Inv B S)(i:Nat):(S.files.getD i ([],[])).1.length+(S.files.getD i ([],[])).2.flatten.length<=B/\(S.files.getD i ([],[])).2.length<=B:=by
 rw[Gj]
 cases hf:S.files[i]? with
 |none=>simp|some f=>
  have h1:=AGi (Bi hf);have h2:=h.bulk;simp only[Dx,FY.all,IA] at h1⊢;omega
theorem lu(h:Inv B S){d n:ByteArray}{x:Nat}{e:Int}(hf:S.Om d n=(AA x,e)):x<S.files.length:=by
 obtain⟨_,_,F,hF,hx⟩:=VC hf;exact h.val.ids _ (CQ hF) _ (CQ hx)
end
end Go.Proofs.YtkkgcebhfghdnaaGreatDoor.Vw
