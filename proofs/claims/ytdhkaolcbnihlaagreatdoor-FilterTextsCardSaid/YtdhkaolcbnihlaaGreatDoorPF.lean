/- Part 6 of the proof of FilterTextsCard: the executor, the mirrors of the functions, the plain facts. -/
import Derived.Test.YtdhkaolcbnihlaaGreatDoorPE
import Derived.Shelf.Strings.Prefix
import Derived.Shelf.Strings.OnBuilder
import Derived.Shelf.Strconv.Itoa3
import Derived.Shelf.Strings.SplitShaped
import Derived.Shelf.Strconv.AtoiAll
import Derived.Lib.ItoaLen
import Derived.Carry
import Derived.ChangeArms
import Derived.OpenShut
import Derived.ChangeShapes
import Derived.ChangeSame
import Derived.SizedLaws
import Derived.WideShapes
import Derived.LaidLaws
import Derived.LaidHandle
import Derived.LaidMore
import Derived.MakeChecks
import Derived.Handed
import Derived.HandedShaped
import Derived.Shelf.Vars
import Derived.Test.YtdhkaolcbnihlaaGreatDoorRows
set_option maxRecDepth 100000
set_option linter.unusedSectionVars false
set_option linter.unusedSimpArgs false
set_option linter.unusedVariables false
section
open Go.RowKit
namespace Go.Proofs
open Go.Shelf
def Tryz.laysM171_ren : Go.Shelf.Ren := ⟨fun | 171 => 20 | 243 => 44 | 246 => 64 | 283 => 77 | 284 => 78 | 285 => 79 | 286 => 80 | 129 => 93 | 317 => 94 | 318 => 95 | 319 => 96 | 320 => 97 | 337 => 106 | 338 => 107 | n => n, fun | 3 => 3 | 9 => 9 | 2 => 2 | 4 => 4 | 171 => 125 | 0 => 0 | 53 => 111 | 37 => 88 | 5 => 5 | 173 => 127 | 212 => 144 | 51 => 145 | 20 => 20 | 213 => 146 | 46 => 123 | 232 => 166 | 233 => 167 | n => n, fun | 17 => 2 | 18 => 8 | 19 => 9 | n => n⟩
theorem Tryz.laysM171 : Go.Proofs.LaysM.n171 Tryz.prog Tryz.laysM171_ren := {
 mixed := by kernel_rfl
 f129 := Tryz.func93.trans (congrArg some (by kernel_rfl))
 f171 := Tryz.func20.trans (congrArg some (by kernel_rfl))
 f243 := Tryz.func44.trans (congrArg some (by kernel_rfl))
 f246 := Tryz.func64.trans (congrArg some (by kernel_rfl))
 f283 := Tryz.func77.trans (congrArg some (by kernel_rfl))
 f284 := Tryz.func78.trans (congrArg some (by kernel_rfl))
 f285 := Tryz.func79.trans (congrArg some (by kernel_rfl))
 f286 := Tryz.func80.trans (congrArg some (by kernel_rfl))
 f317 := Tryz.func94.trans (congrArg some (by kernel_rfl))
 f318 := Tryz.func95.trans (congrArg some (by kernel_rfl))
 f319 := Tryz.func96.trans (congrArg some (by kernel_rfl))
 f320 := Tryz.func97.trans (congrArg some (by kernel_rfl))
 f337 := Tryz.func106.trans (congrArg some (by kernel_rfl))
 f338 := Tryz.func107.trans (congrArg some (by kernel_rfl))
 t0 := Tryz.underlying0
 a0 := Tryz.isAgg0
 z0 := Tryz.sizeOf0
 v0 := Tryz.zeroValue0
 t2 := Tryz.underlying2
 a2 := Tryz.isAgg2
 z2 := Tryz.sizeOf2
 v2 := Tryz.zeroValue2
 t3 := Tryz.underlying3
 a3 := Tryz.isAgg3
 z3 := Tryz.sizeOf3
 v3 := Tryz.zeroValue3
 t4 := Tryz.underlying4
 a4 := Tryz.isAgg4
 z4 := Tryz.sizeOf4
 v4 := Tryz.zeroValue4
 t5 := Tryz.underlying5
 a5 := Tryz.isAgg5
 z5 := Tryz.sizeOf5
 v5 := Tryz.zeroValue5
 t9 := Tryz.underlying9
 a9 := Tryz.isAgg9
 z9 := Tryz.sizeOf9
 v9 := Tryz.zeroValue9
 t20 := Tryz.underlying20
 a20 := Tryz.isAgg20
 z20 := Tryz.sizeOf20
 v20 := Tryz.zeroValue20
 t37 := Tryz.underlying88
 a37 := Tryz.isAgg88
 z37 := Tryz.sizeOf88
 v37 := Tryz.zeroValue88
 t46 := Tryz.underlying123
 a46 := Tryz.isAgg123
 z46 := Tryz.sizeOf123
 v46 := Tryz.zeroValue123
 t51 := Tryz.underlying145
 a51 := Tryz.isAgg145
 z51 := Tryz.sizeOf145
 v51 := Tryz.zeroValue145
 t53 := Tryz.underlying111
 a53 := Tryz.isAgg111
 z53 := Tryz.sizeOf111
 v53 := Tryz.zeroValue111
 t171 := Tryz.underlying125
 a171 := Tryz.isAgg125
 z171 := Tryz.sizeOf125
 v171 := Tryz.zeroValue125
 t173 := Tryz.underlying127
 a173 := Tryz.isAgg127
 z173 := Tryz.sizeOf127
 v173 := Tryz.zeroValue127
 t212 := Tryz.underlying144
 a212 := Tryz.isAgg144
 z212 := Tryz.sizeOf144
 v212 := Tryz.zeroValue144
 t213 := Tryz.underlying146
 a213 := Tryz.isAgg146
 z213 := Tryz.sizeOf146
 t232 := Tryz.underlying166
 a232 := Tryz.isAgg166
 z232 := Tryz.sizeOf166
 v232 := Tryz.zeroValue166
 t233 := Tryz.underlying167
 a233 := Tryz.isAgg167
 z233 := Tryz.sizeOf167
 v233 := Tryz.zeroValue167
 g17 := by kernel_rfl
 g18 := by kernel_rfl
 g19 := by kernel_rfl
 i0 := by kernel_rfl
 i2 := by kernel_rfl
 i3 := by kernel_rfl
 i4 := by kernel_rfl
 i5 := by kernel_rfl
 i9 := by kernel_rfl
 i20 := by kernel_rfl
 i37 := by kernel_rfl
 i46 := by kernel_rfl
 i51 := by kernel_rfl
 i53 := by kernel_rfl
 i171 := by kernel_rfl
 i173 := by kernel_rfl
 i212 := by kernel_rfl
 i232 := by kernel_rfl
 i233 := by kernel_rfl
 m17 := by kernel_rfl
 m18 := by kernel_rfl
 m19 := by kernel_rfl }
def Tryz.lays156_ren : Go.Shelf.Ren := ⟨fun | 156 => 21 | 165 => 45 | 166 => 46 | 169 => 47 | 240 => 65 | 241 => 66 | 276 => 81 | 277 => 82 | n => n, fun | 31 => 55 | 9 => 9 | 3 => 3 | 4 => 4 | 0 => 0 | 20 => 20 | 72 => 90 | 76 => 94 | 70 => 87 | 37 => 88 | 75 => 93 | 127 => 116 | 164 => 129 | 5 => 5 | 80 => 96 | n => n, fun | n => n⟩
theorem Tryz.lays156 : Go.Proofs.Lays.n156 Tryz.prog Tryz.lays156_ren := {
 mixed := by kernel_rfl
 f156 := Tryz.func21.trans (congrArg some (by kernel_rfl))
 f165 := Tryz.func45.trans (congrArg some (by kernel_rfl))
 f166 := Tryz.func46.trans (congrArg some (by kernel_rfl))
 f169 := Tryz.func47.trans (congrArg some (by kernel_rfl))
 f240 := Tryz.func65.trans (congrArg some (by kernel_rfl))
 f241 := Tryz.func66.trans (congrArg some (by kernel_rfl))
 f276 := Tryz.func81.trans (congrArg some (by kernel_rfl))
 f277 := Tryz.func82.trans (congrArg some (by kernel_rfl))
 t0 := Tryz.underlying0
 a0 := Tryz.isAgg0
 z0 := Tryz.sizeOf0
 v0 := Tryz.zeroValue0
 t3 := Tryz.underlying3
 a3 := Tryz.isAgg3
 z3 := Tryz.sizeOf3
 v3 := Tryz.zeroValue3
 t4 := Tryz.underlying4
 a4 := Tryz.isAgg4
 z4 := Tryz.sizeOf4
 v4 := Tryz.zeroValue4
 t9 := Tryz.underlying9
 a9 := Tryz.isAgg9
 z9 := Tryz.sizeOf9
 v9 := Tryz.zeroValue9
 t20 := Tryz.underlying20
 a20 := Tryz.isAgg20
 z20 := Tryz.sizeOf20
 v20 := Tryz.zeroValue20
 t31 := Tryz.underlying55
 a31 := Tryz.isAgg55
 z31 := Tryz.sizeOf55
 v31 := Tryz.zeroValue55
 t37 := Tryz.underlying88
 a37 := Tryz.isAgg88
 z37 := Tryz.sizeOf88
 v37 := Tryz.zeroValue88
 t70 := Tryz.underlying87
 a70 := Tryz.isAgg87
 z70 := Tryz.sizeOf87
 v70 := Tryz.zeroValue87
 t72 := Tryz.underlying90
 a72 := Tryz.isAgg90
 z72 := Tryz.sizeOf90
 v72 := Tryz.zeroValue90
 t75 := Tryz.underlying93
 a75 := Tryz.isAgg93
 z75 := Tryz.sizeOf93
 v75 := Tryz.zeroValue93
 t76 := Tryz.underlying94
 a76 := Tryz.isAgg94
 z76 := Tryz.sizeOf94
 v76 := Tryz.zeroValue94
 t127 := Tryz.underlying116
 a127 := Tryz.isAgg116
 z127 := Tryz.sizeOf116
 v127 := Tryz.zeroValue116
 t164 := Tryz.underlying129
 a164 := Tryz.isAgg129
 z164 := Tryz.sizeOf129
 v164 := Tryz.zeroValue129 }
def Tryz.lays101_ren : Go.Shelf.Ren := ⟨fun | 101 => 50 | 208 => 72 | 206 => 92 | n => n, fun | 9 => 9 | 4 => 4 | 3 => 3 | n => n, fun | n => n⟩
theorem Tryz.lays101 : Go.Proofs.Lays.n101 Tryz.prog Tryz.lays101_ren := {
 mixed := by kernel_rfl
 f101 := Tryz.func50.trans (congrArg some (by kernel_rfl))
 f206 := Tryz.func92.trans (congrArg some (by kernel_rfl))
 f208 := Tryz.func72.trans (congrArg some (by kernel_rfl))
 t3 := Tryz.underlying3
 a3 := Tryz.isAgg3
 z3 := Tryz.sizeOf3
 v3 := Tryz.zeroValue3
 t4 := Tryz.underlying4
 a4 := Tryz.isAgg4
 z4 := Tryz.sizeOf4
 v4 := Tryz.zeroValue4
 t9 := Tryz.underlying9
 a9 := Tryz.isAgg9
 z9 := Tryz.sizeOf9
 v9 := Tryz.zeroValue9 }
def Tryz.laysM146_ren : Go.Shelf.Ren := ⟨fun | 146 => 22 | 221 => 48 | 268 => 67 | 138 => 68 | 143 => 69 | 195 => 83 | 197 => 84 | 218 => 85 | 219 => 86 | 260 => 98 | 217 => 99 | 225 => 100 | 224 => 101 | 267 => 102 | 266 => 108 | 314 => 109 | n => n, fun | 9 => 9 | 31 => 55 | 3 => 3 | 4 => 4 | 0 => 0 | 105 => 133 | 21 => 21 | 5 => 5 | 46 => 123 | 119 => 155 | 139 => 158 | 138 => 157 | 146 => 159 | 51 => 145 | n => n, fun | 1 => 3 | 3 => 6 | 4 => 7 | n => n⟩
theorem Tryz.laysM146 : Go.Proofs.LaysM.n146 Tryz.prog Tryz.laysM146_ren := {
 mixed := by kernel_rfl
 f138 := Tryz.func68.trans (congrArg some (by kernel_rfl))
 f143 := Tryz.func69.trans (congrArg some (by kernel_rfl))
 f146 := Tryz.func22.trans (congrArg some (by kernel_rfl))
 f195 := Tryz.func83.trans (congrArg some (by kernel_rfl))
 f197 := Tryz.func84.trans (congrArg some (by kernel_rfl))
 f217 := Tryz.func99.trans (congrArg some (by kernel_rfl))
 f218 := Tryz.func85.trans (congrArg some (by kernel_rfl))
 f219 := Tryz.func86.trans (congrArg some (by kernel_rfl))
 f221 := Tryz.func48.trans (congrArg some (by kernel_rfl))
 f224 := Tryz.func101.trans (congrArg some (by kernel_rfl))
 f225 := Tryz.func100.trans (congrArg some (by kernel_rfl))
 f260 := Tryz.func98.trans (congrArg some (by kernel_rfl))
 f266 := Tryz.func108.trans (congrArg some (by kernel_rfl))
 f267 := Tryz.func102.trans (congrArg some (by kernel_rfl))
 f268 := Tryz.func67.trans (congrArg some (by kernel_rfl))
 f314 := Tryz.func109.trans (congrArg some (by kernel_rfl))
 t0 := Tryz.underlying0
 a0 := Tryz.isAgg0
 z0 := Tryz.sizeOf0
 v0 := Tryz.zeroValue0
 t3 := Tryz.underlying3
 a3 := Tryz.isAgg3
 z3 := Tryz.sizeOf3
 v3 := Tryz.zeroValue3
 t4 := Tryz.underlying4
 a4 := Tryz.isAgg4
 z4 := Tryz.sizeOf4
 v4 := Tryz.zeroValue4
 t5 := Tryz.underlying5
 a5 := Tryz.isAgg5
 z5 := Tryz.sizeOf5
 v5 := Tryz.zeroValue5
 t9 := Tryz.underlying9
 a9 := Tryz.isAgg9
 z9 := Tryz.sizeOf9
 v9 := Tryz.zeroValue9
 t21 := Tryz.underlying21
 a21 := Tryz.isAgg21
 z21 := Tryz.sizeOf21
 v21 := Tryz.zeroValue21
 t31 := Tryz.underlying55
 a31 := Tryz.isAgg55
 z31 := Tryz.sizeOf55
 v31 := Tryz.zeroValue55
 t46 := Tryz.underlying123
 a46 := Tryz.isAgg123
 z46 := Tryz.sizeOf123
 v46 := Tryz.zeroValue123
 t51 := Tryz.underlying145
 a51 := Tryz.isAgg145
 z51 := Tryz.sizeOf145
 v51 := Tryz.zeroValue145
 t105 := Tryz.underlying133
 a105 := Tryz.isAgg133
 z105 := Tryz.sizeOf133
 v105 := Tryz.zeroValue133
 t119 := Tryz.underlying155
 a119 := Tryz.isAgg155
 z119 := Tryz.sizeOf155
 t138 := Tryz.underlying157
 a138 := Tryz.isAgg157
 z138 := Tryz.sizeOf157
 v138 := Tryz.zeroValue157
 t139 := Tryz.underlying158
 a139 := Tryz.isAgg158
 z139 := Tryz.sizeOf158
 v139 := Tryz.zeroValue158
 t146 := Tryz.underlying159
 a146 := Tryz.isAgg159
 z146 := Tryz.sizeOf159
 v146 := Tryz.zeroValue159
 g1 := by kernel_rfl
 g3 := by kernel_rfl
 g4 := by kernel_rfl
 i0 := by kernel_rfl
 i3 := by kernel_rfl
 i4 := by kernel_rfl
 i5 := by kernel_rfl
 i9 := by kernel_rfl
 i21 := by kernel_rfl
 i31 := by kernel_rfl
 i46 := by kernel_rfl
 i51 := by kernel_rfl
 i105 := by kernel_rfl
 i138 := by kernel_rfl
 i139 := by kernel_rfl
 i146 := by kernel_rfl
 m1 := by kernel_rfl
 s1_3 := fun w h => Go.Proofs.cell_of_shapedOpen_int (zero := #[.int .i64 0]) (t := 3) h (of_decide_eq_true (by kernel_rfl)) (by kernel_rfl) rfl (by kernel_rfl) (by kernel_rfl) Tryz.underlying3
 m3 := by kernel_rfl
 m4 := by kernel_rfl }
def Tryz.laysC172_ren : Go.Shelf.Ren := ⟨fun | 172 => 49 | 244 => 70 | 245 => 71 | 247 => 87 | 279 => 88 | 280 => 89 | 281 => 90 | 282 => 91 | 287 => 103 | 316 => 104 | 171 => 20 | 205 => 105 | 321 => 110 | 322 => 111 | 243 => 44 | 246 => 64 | 283 => 77 | 284 => 78 | 285 => 79 | 286 => 80 | 129 => 93 | 317 => 94 | 318 => 95 | 319 => 96 | 320 => 97 | 337 => 106 | 338 => 107 | n => n, fun | 9 => 9 | 3 => 3 | 75 => 93 | 76 => 94 | 4 => 4 | 5 => 5 | 167 => 136 | 37 => 88 | 0 => 0 | 85 => 137 | 2 => 2 | 168 => 139 | 53 => 111 | 175 => 148 | 46 => 123 | 210 => 152 | 127 => 116 | 145 => 165 | 143 => 163 | 21 => 21 | 171 => 125 | 173 => 127 | 212 => 144 | 51 => 145 | 20 => 20 | 213 => 146 | 232 => 166 | 233 => 167 | 80 => 96 | n => n, fun | 15 => 4 | 16 => 5 | 17 => 2 | 18 => 8 | 19 => 9 | n => n⟩
theorem Tryz.laysC172 : Go.Proofs.LaysC.n172 Tryz.prog Tryz.laysC172_ren := {
 mixed := by kernel_rfl
 f129 := Tryz.func93.trans (congrArg some (by kernel_rfl))
 f171 := Tryz.func20.trans (congrArg some (by kernel_rfl))
 f172 := Tryz.func49.trans (congrArg some (by kernel_rfl))
 f205 := Tryz.func105.trans (congrArg some (by kernel_rfl))
 f243 := Tryz.func44.trans (congrArg some (by kernel_rfl))
 f244 := Tryz.func70.trans (congrArg some (by kernel_rfl))
 f245 := Tryz.func71.trans (congrArg some (by kernel_rfl))
 f246 := Tryz.func64.trans (congrArg some (by kernel_rfl))
 f247 := Tryz.func87.trans (congrArg some (by kernel_rfl))
 f279 := Tryz.func88.trans (congrArg some (by kernel_rfl))
 f280 := Tryz.func89.trans (congrArg some (by kernel_rfl))
 f281 := Tryz.func90.trans (congrArg some (by kernel_rfl))
 f282 := Tryz.func91.trans (congrArg some (by kernel_rfl))
 f283 := Tryz.func77.trans (congrArg some (by kernel_rfl))
 f284 := Tryz.func78.trans (congrArg some (by kernel_rfl))
 f285 := Tryz.func79.trans (congrArg some (by kernel_rfl))
 f286 := Tryz.func80.trans (congrArg some (by kernel_rfl))
 f287 := Tryz.func103.trans (congrArg some (by kernel_rfl))
 f316 := Tryz.func104.trans (congrArg some (by kernel_rfl))
 f317 := Tryz.func94.trans (congrArg some (by kernel_rfl))
 f318 := Tryz.func95.trans (congrArg some (by kernel_rfl))
 f319 := Tryz.func96.trans (congrArg some (by kernel_rfl))
 f320 := Tryz.func97.trans (congrArg some (by kernel_rfl))
 f321 := Tryz.func110.trans (congrArg some (by kernel_rfl))
 f322 := Tryz.func111.trans (congrArg some (by kernel_rfl))
 f337 := Tryz.func106.trans (congrArg some (by kernel_rfl))
 f338 := Tryz.func107.trans (congrArg some (by kernel_rfl))
 t0 := Tryz.underlying0
 a0 := Tryz.isAgg0
 z0 := Tryz.sizeOf0
 v0 := Tryz.zeroValue0
 t2 := Tryz.underlying2
 a2 := Tryz.isAgg2
 z2 := Tryz.sizeOf2
 v2 := Tryz.zeroValue2
 t3 := Tryz.underlying3
 a3 := Tryz.isAgg3
 z3 := Tryz.sizeOf3
 v3 := Tryz.zeroValue3
 t4 := Tryz.underlying4
 a4 := Tryz.isAgg4
 z4 := Tryz.sizeOf4
 v4 := Tryz.zeroValue4
 t5 := Tryz.underlying5
 a5 := Tryz.isAgg5
 z5 := Tryz.sizeOf5
 v5 := Tryz.zeroValue5
 t9 := Tryz.underlying9
 a9 := Tryz.isAgg9
 z9 := Tryz.sizeOf9
 v9 := Tryz.zeroValue9
 t20 := Tryz.underlying20
 a20 := Tryz.isAgg20
 z20 := Tryz.sizeOf20
 v20 := Tryz.zeroValue20
 t21 := Tryz.underlying21
 a21 := Tryz.isAgg21
 z21 := Tryz.sizeOf21
 v21 := Tryz.zeroValue21
 t37 := Tryz.underlying88
 a37 := Tryz.isAgg88
 z37 := Tryz.sizeOf88
 v37 := Tryz.zeroValue88
 t46 := Tryz.underlying123
 a46 := Tryz.isAgg123
 z46 := Tryz.sizeOf123
 v46 := Tryz.zeroValue123
 t51 := Tryz.underlying145
 a51 := Tryz.isAgg145
 z51 := Tryz.sizeOf145
 v51 := Tryz.zeroValue145
 t53 := Tryz.underlying111
 a53 := Tryz.isAgg111
 z53 := Tryz.sizeOf111
 v53 := Tryz.zeroValue111
 t75 := Tryz.underlying93
 a75 := Tryz.isAgg93
 z75 := Tryz.sizeOf93
 v75 := Tryz.zeroValue93
 t76 := Tryz.underlying94
 a76 := Tryz.isAgg94
 z76 := Tryz.sizeOf94
 v76 := Tryz.zeroValue94
 t85 := Tryz.underlying137
 a85 := Tryz.isAgg137
 z85 := Tryz.sizeOf137
 v85 := Tryz.zeroValue137
 t127 := Tryz.underlying116
 a127 := Tryz.isAgg116
 z127 := Tryz.sizeOf116
 v127 := Tryz.zeroValue116
 t143 := Tryz.underlying163
 a143 := Tryz.isAgg163
 z143 := Tryz.sizeOf163
 v143 := Tryz.zeroValue163
 t145 := Tryz.underlying165
 a145 := Tryz.isAgg165
 z145 := Tryz.sizeOf165
 v145 := Tryz.zeroValue165
 t167 := Tryz.underlying136
 a167 := Tryz.isAgg136
 z167 := Tryz.sizeOf136
 v167 := Tryz.zeroValue136
 t168 := Tryz.underlying139
 a168 := Tryz.isAgg139
 z168 := Tryz.sizeOf139
 v168 := Tryz.zeroValue139
 t171 := Tryz.underlying125
 a171 := Tryz.isAgg125
 z171 := Tryz.sizeOf125
 v171 := Tryz.zeroValue125
 t173 := Tryz.underlying127
 a173 := Tryz.isAgg127
 z173 := Tryz.sizeOf127
 v173 := Tryz.zeroValue127
 t175 := Tryz.underlying148
 a175 := Tryz.isAgg148
 z175 := Tryz.sizeOf148
 v175 := Tryz.zeroValue148
 t210 := Tryz.underlying152
 a210 := Tryz.isAgg152
 z210 := Tryz.sizeOf152
 v210 := Tryz.zeroValue152
 t212 := Tryz.underlying144
 a212 := Tryz.isAgg144
 z212 := Tryz.sizeOf144
 v212 := Tryz.zeroValue144
 t213 := Tryz.underlying146
 a213 := Tryz.isAgg146
 z213 := Tryz.sizeOf146
 t232 := Tryz.underlying166
 a232 := Tryz.isAgg166
 z232 := Tryz.sizeOf166
 v232 := Tryz.zeroValue166
 t233 := Tryz.underlying167
 a233 := Tryz.isAgg167
 z233 := Tryz.sizeOf167
 v233 := Tryz.zeroValue167
 g15 := by kernel_rfl
 g16 := by kernel_rfl
 g17 := by kernel_rfl
 g18 := by kernel_rfl
 g19 := by kernel_rfl
 t80 := Tryz.underlying96
 a80 := Tryz.isAgg96
 z80 := Tryz.sizeOf96
 v80 := Tryz.zeroValue96
 i0 := by kernel_rfl
 i2 := by kernel_rfl
 i3 := by kernel_rfl
 i4 := by kernel_rfl
 i5 := by kernel_rfl
 i9 := by kernel_rfl
 i20 := by kernel_rfl
 i21 := by kernel_rfl
 i37 := by kernel_rfl
 i46 := by kernel_rfl
 i51 := by kernel_rfl
 i53 := by kernel_rfl
 i75 := by kernel_rfl
 i76 := by kernel_rfl
 i80 := by kernel_rfl
 i85 := by kernel_rfl
 i127 := by kernel_rfl
 i143 := by kernel_rfl
 i145 := by kernel_rfl
 i167 := by kernel_rfl
 i168 := by kernel_rfl
 i171 := by kernel_rfl
 i173 := by kernel_rfl
 i175 := by kernel_rfl
 i210 := by kernel_rfl
 i212 := by kernel_rfl
 i232 := by kernel_rfl
 i233 := by kernel_rfl
 m15 := by kernel_rfl
 m16 := by kernel_rfl
 m17 := by kernel_rfl
 m18 := by kernel_rfl
 m19 := by kernel_rfl
 c0 := by kernel_rfl
 c2 := by kernel_rfl
 c3 := by kernel_rfl
 c4 := by kernel_rfl
 c5 := by kernel_rfl
 c9 := by kernel_rfl
 c20 := by kernel_rfl
 c21 := by kernel_rfl
 c37 := by kernel_rfl
 c46 := by kernel_rfl
 c51 := by kernel_rfl
 c53 := by kernel_rfl
 c75 := by kernel_rfl
 c76 := by kernel_rfl
 c80 := by kernel_rfl
 c85 := by kernel_rfl
 c127 := by kernel_rfl
 c143 := by kernel_rfl
 c145 := by kernel_rfl
 c167 := by kernel_rfl
 c168 := by kernel_rfl
 c171 := by kernel_rfl
 c173 := by kernel_rfl
 c175 := by kernel_rfl
 c210 := by kernel_rfl
 c212 := by kernel_rfl
 c213 := by kernel_rfl
 c232 := by kernel_rfl
 c233 := by kernel_rfl }
end Go.Proofs
namespace Go.Sh
open Go Go.Proofs Go.RowKit Go.Sx Go.Shelf
theorem jot {α : Type} (f : α → D) (l : List α) : (l.flatMap fun x => [f x]) = l.map f := by
 induction l with
 | nil => rfl
 | cons x r ih => simp [List.flatMap_cons, ih]
theorem jj8 : Builder.Extra Tryz.prog Tryz.lays156_ren where
 sizeBuilder := by kernel_rfl
 liesBuilder := by kernel_rfl
 t5 := by kernel_rfl
 a5 := fun w => jdO w (by kernel_rfl)
 z5 := fun w => jaH w (by kernel_rfl)
 v5 := fun w => rfl
 infoByte := by kernel_rfl
 cellsByte := by kernel_rfl
 sizeByte := by kernel_rfl
 neB5 := by decide
theorem jm9 : Tryz.prog.globalNamed "internal/strconv.uint64pow10" = some 2 := by kernel_rfl
theorem jrJ {B : Bd} {w : World} (h : jbC B w) {g : Nat} {k : IntKind} {l : List Int} {name : String} (hn : Tryz.prog.globalNamed name = some g) (ht : Globs.tab g = some (.ints k l)) : Lib.TabIs Tryz.prog w name k l := by
 obtain ⟨_, hc, cs, t, f, hg, hs⟩ := h.1 g _ ht
 unfold Lib.TabIs World.var?
 rw [hn]
 simp only [Option.bind_some, hg, Option.some.injEq]
 apply Array.ext'
 apply List.ext_getElem?
 intro i
 have hfl : (Cont.ints k l).flat = l.map (D.i k) := jot _ _
 by_cases hi : i < l.length
 ·have := hc i (.i k l[i]) (by rw [hfl]; simp [hi])
  simp only [World.cell?, hg] at this
  rw [Array.getElem?_toList]
  simp only [List.getElem?_map, List.getElem?_eq_getElem hi, Option.map_some]
  exact this
 ·rw [hfl, List.length_map] at hs
  rw [Array.getElem?_toList, Array.getElem?_eq_none (by omega), List.getElem?_eq_none (by simpa using Nat.le_of_not_lt hi)]
def strconv_Itoa (n : Int) : Option ByteArray := if -9223372036854775808 ≤ n ∧ n ≤ 9223372036854775807 then some ⟨(Lib.itoa n).toArray⟩ else none
def jf2 : List SV := [.c (.d)]
def jdY : List Lf → Option GT
 | [.d (.i .i64 n)] => some (.leaf (ok (strconv_Itoa n)) [.c (.d (.s (val (strconv_Itoa n))))])
 | _ => none
abbrev sp_20 : jaa → jaa := ja3 20 true (jc6 jf2 jdY)
theorem jj9 : jah Tryz.prog 20 true (jc6 jf2 jdY) := by
 refine jeo (body := jai Tryz.f20) Tryz.func20 (by kernel_rfl) (by kernel_rfl) ?_
 intro ls t hg ho b hb ρ0 w hlt hh
 unfold jdY at hg
 split at hg
 ·rename_i n
  cases hg
  obtain rfl := jhG hb
  have hk : ok (strconv_Itoa n) := ho
  unfold strconv_Itoa at hk
  have hn : -9223372036854775808 ≤ n ∧ n ≤ 9223372036854775807 := by
   by_cases h : -9223372036854775808 ≤ n ∧ n ≤ 9223372036854775807
   ·exact h
   ·rw [if_neg h] at hk; cases hk
  have hv : val (strconv_Itoa n) = ⟨(Lib.itoa n).toArray⟩ := by
   unfold strconv_Itoa
   rw [if_pos hn]
   rfl
  have htab := jrJ hh.glob jm9 (k := .u64) (l := Lib.pow10Tab) (by kernel_rfl)
  refine (Any.strconv_Itoa Tryz.laysM171 n hn.1 hn.2 w htab).mono ?_
  rintro e w' ⟨rfl, k, os, rfl⟩
  have hbl : Below w.heap.size w (Sort.grow (w.drewN k) os) := by
   refine ⟨rfl, rfl, rfl, by simp [Sort.grow, World.drewN], fun j hj => ?_⟩
   show (w.heap ++ os)[j]? = _
   rw [Array.getElem?_append_left hj]
  refine ⟨ρ0, .w (.c (.d (.s ⟨(Lib.itoa n).toArray⟩))), _, _, rfl, trivial, jaf.refl _ _, hh.below hbl (fun k hk => hk), jbK hbl (fun k hk => hk), ?_⟩
  show mD _ _ ∧ True
  rw [hv]
  exact ⟨⟨rfl⟩, trivial⟩
 ·cases hg
theorem sp_20_ok {sp : jaa} (h : jac Tryz.prog sp) : jac Tryz.prog (sp_20 sp) := jax jj9 h
def strings_Join (l : List ByteArray) (sep : ByteArray) : Option ByteArray :=
 if l.length ≤ 140737488355328 ∧ (Lib.join (l.map (·.data.toList)) sep.data.toList).length ≤ 140737488355328 then some ⟨(Lib.join (l.map (·.data.toList)) sep.data.toList).toArray⟩ else none
def jdZ : List SV := [.c (.r (.strs [])), .c (.d)]
def jd0 : List Lf → Option GT
 | [.r (.strs l), .d (.s sep)] => some (.leaf (ok (strings_Join l sep)) [.c (.d (.s (val (strings_Join l sep))))])
 | _ => none
abbrev sp_21 : jaa → jaa := ja3 21 true (jc6 jdZ jd0)
theorem jka : jah Tryz.prog 21 true (jc6 jdZ jd0) := by
 refine jeo (body := jai Tryz.f21) Tryz.func21 (by kernel_rfl) (by kernel_rfl) ?_
 intro ls t hg ho b hb ρ0 w hlt hh
 unfold jd0 at hg
 split at hg
 ·rename_i l sep
  cases hg
  obtain rfl := jhG hb
  have hk : ok (strings_Join l sep) := ho
  unfold strings_Join at hk
  have hn : l.length ≤ 140737488355328 ∧ (Lib.join (l.map (·.data.toList)) sep.data.toList).length ≤ 140737488355328 := by
   by_cases h : l.length ≤ 140737488355328 ∧ (Lib.join (l.map (·.data.toList)) sep.data.toList).length ≤ 140737488355328
   ·exact h
   ·rw [if_neg h] at hk; cases hk
  have hv : val (strings_Join l sep) = ⟨(Lib.join (l.map (·.data.toList)) sep.data.toList).toArray⟩ := by
   unfold strings_Join
   rw [if_pos hn]
   rfl
  obtain ⟨_, _, ⟨a, cap, hv0, ⟨hcap, _⟩, hcells⟩, hold⟩ := hh.ok 0 (.ext (.strs l)) rfl
  have hargs : ((bldD jdZ [.r (.strs l), .d (.s sep)]).vs.map (V.val ρ0)).toArray = #[ρ0 0, .string sep] := rfl
  rw [hargs, hv0]
  have fin : ∀ w', Below w.heap.size w w' → ∃ ρ' v hp' nx', Ending.returned (.string ⟨(Lib.join (l.map (·.data.toList)) sep.data.toList).toArray⟩) = .returned (V.val ρ' v) ∧ v.lt nx' ∧ jaf 1 ρ0 ρ' ∧ HRel ρ' (fun k => k < w.heap.size) hp' nx' w' ∧ Bel (fun k => k < w.heap.size) w w' ∧
    fitV 1 [.c (.d (.s (val (strings_Join l sep))))] v hp' := fun w' hbl => by
   refine ⟨ρ0, .w (.c (.d (.s ⟨(Lib.join (l.map (·.data.toList)) sep.data.toList).toArray⟩))), _, _, rfl, trivial, jaf.refl _ _, hh.below hbl (fun k hk => hk), jbK hbl (fun k hk => hk), ?_⟩
   show mD _ _ ∧ True
   rw [hv]
   exact ⟨⟨rfl⟩, trivial⟩
  cases hl : l with
  | nil =>
   subst hl
   refine (Any.strings_Join_none Tryz.lays156 jj8 a cap sep w).mono ?_
   rintro e w' ⟨rfl, rfl⟩
   exact fin _ (Below.refl _ _)
  | cons x r =>
   rw [← hl]
   have h0 : 0 < l.length := by rw [hl]; simp
   obtain ⟨b, off, rfl, hx⟩ := hcells h0
   refine (Any.strings_Join Tryz.lays156 jj8 b off cap l sep w (fun j x hj => ?_) (hold _ _ _ hv0 h0) hn.1 hcap hn.2).mono ?_
   ·exact hx j (.s x) (by
     show ((Cont.strs l).flat)[j]? = _
     have hfl : (Cont.strs l).flat = l.map D.s := jot _ _
     rw [hfl, List.getElem?_map, hj]
     rfl)
   ·rintro e w' ⟨rfl, hbl⟩
    exact fin _ hbl
 ·cases hg
theorem sp_21_ok {sp : jaa} (h : jac Tryz.prog sp) : jac Tryz.prog (sp_21 sp) := jax jka h
def strings_TrimPrefix (s p : ByteArray) : Option ByteArray := some ⟨(Lib.trimPrefix s.data.toList p.data.toList).toArray⟩
def jdJ : List SV := [.c (.d), .c (.d)]
def jcE : List Lf → Option GT
 | [.d (.s s), .d (.s p)] => some (.leaf (ok (strings_TrimPrefix s p)) [.c (.d (.s (val (strings_TrimPrefix s p))))])
 | _ => none
abbrev sp_50 : jaa → jaa := ja3 50 true (jc6 jdJ jcE)
theorem jf3 : jah Tryz.prog 50 true (jc6 jdJ jcE) := by
 refine jeo (body := jai Tryz.f50) Tryz.func50 (by kernel_rfl) (by kernel_rfl) ?_
 intro ls t hg ho b hb ρ0 w hlt hh
 unfold jcE at hg
 split at hg
 ·rename_i s p
  cases hg
  obtain rfl := jhG hb
  refine (Any.strings_TrimPrefix Tryz.lays101 s p w).mono ?_
  rintro e w' ⟨rfl, rfl⟩
  refine ⟨ρ0, .w (.c (.d (.s ⟨(Lib.trimPrefix s.data.toList p.data.toList).toArray⟩))), _, _, rfl, trivial, jaf.refl _ _, hh, Bel.refl _ _, ?_⟩
  show mD _ _ ∧ True
  exact ⟨⟨rfl⟩, trivial⟩
 ·cases hg
theorem sp_50_ok {sp : jaa} (h : jac Tryz.prog sp) : jac Tryz.prog (sp_50 sp) := jax jf3 h
def strings_Split (s sep : ByteArray) : Option (List ByteArray) :=
 if s.size ≤ 1000000 ∧ 1 ≤ sep.size then some (Lib.splitB sep 0 (Lib.countB s sep) s) else none
def jfo : List SV := [.c (.d), .c (.d)]
def jdK : List Lf → Option GT
 | [.d (.s s), .d (.s sep)] => some (.leaf (ok (strings_Split s sep)) [.c (.row 9 (.strs (val (strings_Split s sep))))])
 | _ => none
abbrev sp_22 : jaa → jaa := ja3 22 true (jc6 jfo jdK)
theorem ji4 : jah Tryz.prog 22 true (jc6 jfo jdK) := by
 refine jeo (body := jai Tryz.f22) Tryz.func22 (by kernel_rfl) (by kernel_rfl) ?_
 intro ls t hg ho b hb ρ0 w hlt hh
 unfold jdK at hg
 split at hg
 ·rename_i s sep
  cases hg
  obtain rfl := jhG hb
  have hk : ok (strings_Split s sep) := ho
  unfold strings_Split at hk
  have hn : s.size ≤ 1000000 ∧ 1 ≤ sep.size := by
   by_cases h : s.size ≤ 1000000 ∧ 1 ≤ sep.size
   ·exact h
   ·rw [if_neg h] at hk; cases hk
  have hv : val (strings_Split s sep) = Lib.splitB sep 0 (Lib.countB s sep) s := by
   unfold strings_Split
   rw [if_pos hn]
   rfl
  have hlen := Lib.splitB_all sep hn.2 0 _ s rfl
  obtain ⟨_, m0, hm, m, rfl⟩ := hh.glob.2 3 _ rfl
  refine (Any.strings_Split { Tryz.laysM146 with } Tryz.laysM146.i9 s sep m w (by omega) hm hn.2).mono ?_
  rintro e w' ⟨rfl, rfl⟩
  generalize hL : Lib.splitB sep 0 (Lib.countB s sep) s = L at *
  have hfl : (L.map Value.string).toArray = ((Cont.strs L).flat.map D.val).toArray := by
   show _ = ((L.flatMap fun x => [D.s x]).map D.val).toArray
   rw [jot, List.map_map]
   rfl
  have hbl : Below w.heap.size w (w.alloc (.cells (L.map Value.string).toArray 9)) := (Below.refl _ w).alloc (Nat.le_refl _) _
  have hle := Lib.countB_le sep hn.2 s.size s (Nat.le_refl _)
  have hLn : (Cont.strs L).n ≤ 9223372036854775807 := by show L.length ≤ _; omega
  refine ⟨upd ρ0 0 (.slice (some ⟨w.heap.size, 0, none⟩) L.length L.length), .w (.c (.o 0)), (0, .row 9 (.strs L)) :: [], 1, ?_, Nat.lt_succ_self 0, fun h hh => absurd hh (Nat.not_lt_zero _), ?_, jbK hbl (fun k hk => hk), ?_⟩
  ·rw [← hlen]
   rfl
  ·refine HRel.add (nx := 0) (hp := []) hh hbl (fun k hk => hk) (fun h hh => absurd hh (Nat.not_lt_zero _)) trivial ?_ ?_
   ·rw [hfl]
    exact jjj (c := .strs L) (fun k hk => hk) hLn
   ·intro k hk
    rw [upd_same] at hk
    simp [O.blk, Value.ownBlock] at hk
    omega
  ·show jdA _ _ ∧ True
   rw [hv]
   exact ⟨⟨rfl⟩, trivial⟩
 ·cases hg
theorem sp_22_ok {sp : jaa} (h : jac Tryz.prog sp) : jac Tryz.prog (sp_22 sp) := jax ji4 h
def jbL (s : ByteArray) : Bool := match Lib.atoiAll s.data.toList with
 | .ok _ => true
 | _ => false
def jag (s : ByteArray) : Int := match Lib.atoiAll s.data.toList with
 | .ok v => v
 | .range => Lib.atoiSat s.data.toList
 | _ => 0
def jou : Sx.Spec := fun vs hp nx => match vs with
 | [.w (.c (.d (.s s)))] => some (.br (jbL s)
   (.leaf ⟨s.size ≤ 1000000, .t [.c (.d (.i .i64 (jag s))), .c (.d (.v .nilIface))], hp, nx⟩)
   (.leaf ⟨s.size ≤ 1000000, .t [.c (.d (.i .i64 (jag s))), .c (.o nx)], (nx, .err) :: hp, nx + 1⟩))
 | _ => none
abbrev sp_49 : jaa → jaa := ja3 49 true jou
theorem jrn : jah Tryz.prog 49 true jou := by
 refine .inl ⟨jcA Tryz.func49 (body := jai Tryz.f49) (by kernel_rfl) (by kernel_rfl), fun ρ B w args hp nx t hS hob hlt hh hB => ?_⟩
 unfold jou at hS
 split at hS
 ·rename_i s
  cases hS
  have hargs : (List.map (V.val ρ) [V.w (.c (.d (.s s)))]).toArray = #[.string s] := rfl
  rw [hargs]
  cases hb : jbL s with
  | true =>
   simp only [RT.sel, hb] at hob ⊢
   obtain ⟨v, hv⟩ : ∃ v, Lib.atoiAll s.data.toList = .ok v := by
    unfold jbL at hb
    split at hb
    ·rename_i v h; exact ⟨v, h⟩
    ·cases hb
   have hav : jag s = v := by unfold jag; rw [hv]
   refine (Any.strconv_Atoi_ok Tryz.laysC172 s (by omega) v hv w).mono ?_
   rintro e w' ⟨rfl, hw⟩
   have hbl : Below w.heap.size w w' := by
    rcases hw with rfl | ⟨t, rfl⟩
    ·exact Below.refl _ _
    ·exact Lib.bytesWorld_below w _ t
   refine ⟨ρ, by rw [hav]; rfl, jaf.refl _ _, fun x hx => ?_, Nat.le_refl _, hh.below hbl hB, jbK hbl hB, fun _ => hbl, fun _ h o k hn hf => ?_⟩
   ·simp only [List.mem_cons, List.not_mem_nil, or_false] at hx
    rcases hx with rfl | rfl <;> trivial
   ·have := (hh.ok h o hf).1
    omega
  | false =>
   simp only [RT.sel, hb] at hob ⊢
   have key : ∀ (v : Int), jag s = v → ∀ (N : Nat) (t : Nat) (w' : World), Below w.heap.size w w' → ∃ ρ', (Ending.returned (.tuple #[.int .i64 v, .iface t (.pointer (some ⟨N, 0, none⟩))]) : Ending) = .returned ((V.t [.c (.d (.i .i64 (jag s))), .c (.o nx)]).val ρ') ∧
     Go.Sx.Left ρ B nx w ⟨s.size ≤ 1000000, .t [.c (.d (.i .i64 (jag s))), .c (.o nx)], (nx, .err) :: hp, nx + 1⟩ true ρ' w' := by
    intro v hv N t w' hbl
    refine ⟨upd ρ nx (.iface t (.pointer (some ⟨N, 0, none⟩))), ?_, jao _ _ _, fun x hx => ?_, Nat.le_succ _, ?_, jbK hbl hB, fun _ => hbl, fun _ h o k hn hf hk => ?_⟩
    ·rw [hv]
     simp [V.val, W.val, C.val, D.val]
    ·simp only [List.mem_cons, List.not_mem_nil, or_false] at hx
     rcases hx with rfl | rfl
     ·trivial
     ·exact Nat.lt_succ_self nx
    ·refine hh.add hbl hB (jao _ _ _) trivial ⟨t, _, upd_same _ _ _⟩ ?_
     intro k hk
     simp [O.blk] at hk
    ·simp only [find] at hf
     split at hf
     ·cases hf
      simp [O.blk] at hk
     ·have := (hh.ok h o hf).1
      omega
   cases hv : Lib.atoiAll s.data.toList with
   | ok v =>
    unfold jbL at hb
    rw [hv] at hb
    cases hb
   | range =>
    obtain ⟨_, ev, hev, hev2⟩ := hh.glob.2 5 _ rfl
    refine (Any.strconv_Atoi_range Tryz.laysC172 s (by omega) hv ev w hev hev2).mono ?_
    rintro e w' ⟨N, rfl, _, _, hbl⟩
    exact key _ (by unfold jag; rw [hv]) N _ w' hbl
   | _ =>
    obtain ⟨_, ev, hev, hev2⟩ := hh.glob.2 4 _ rfl
    refine (Any.strconv_Atoi_syntax Tryz.laysC172 s (by omega) hv ev w hev hev2).mono ?_
    rintro e w' ⟨N, rfl, _, _, hbl⟩
    exact key 0 (by unfold jag; rw [hv]) N _ w' hbl
 ·cases hS
theorem sp_49_ok {sp : jaa} (h : jac Tryz.prog sp) : jac Tryz.prog (sp_49 sp) := jax jrn h
end Go.Sh
end

section
namespace Go.Sh
open Go Go.Proofs Go.RowKit Go.Sx
open Go.IntKind (wrap)
def jgX : List (Option Cont) := [none]
def y4 (t : ByteArray) : Option (Int × Int × Int × Int × Int × Bool) :=
 Option.bind (strings_Split t (ByteArray.mk #[(32 : UInt8)])) fun r0 =>
 if ((↑(List.length r0) : Int) != 5) = true then
  some (((0 : Int), 0, 0, 0, 0, false))
 else
  if (0 : Int) ≤ 0 ∧ 0 < (↑(List.length r0) : Int) then
  if 0 < List.length r0 then
   if (jbL (List.getD r0 0 ByteArray.empty)) = true then
   if ByteArray.size (List.getD r0 0 ByteArray.empty) ≤ 1000000 then
    Option.bind (strconv_Itoa (jag (List.getD r0 0 ByteArray.empty))) fun r1 =>
    if (0 : Int) ≤ 0 ∧ 0 < (↑(List.length r0) : Int) then
    if 0 < List.length r0 then
     if (r1 != List.getD r0 0 ByteArray.empty) = true then
     some (((0 : Int), 0, 0, 0, 0, false))
     else
     if (0 : Int) ≤ 0 ∧ 0 < (↑(List.length r0) : Int) then
      if 0 < List.length r0 then
      Option.bind (strings_TrimPrefix (List.getD r0 0 ByteArray.empty) (ByteArray.mk #[(45 : UInt8)])) fun r2 =>
      if (↑(ByteArray.size r2) : Int) > 6 then
       some (((0 : Int), 0, 0, 0, 0, false))
      else
       if (0 : Int) ≤ 1 ∧ 1 < (↑(List.length r0) : Int) then
       if 1 < List.length r0 then
        if (jbL (List.getD r0 1 ByteArray.empty)) = true then
        if ByteArray.size (List.getD r0 1 ByteArray.empty) ≤ 1000000 then
         Option.bind (strconv_Itoa (jag (List.getD r0 1 ByteArray.empty))) fun r3 =>
         if (0 : Int) ≤ 1 ∧ 1 < (↑(List.length r0) : Int) then
         if 1 < List.length r0 then
          if (r3 != List.getD r0 1 ByteArray.empty) = true then
          some ((jag (List.getD r0 0 ByteArray.empty), 0, 0, 0, 0, false))
          else
          if (0 : Int) ≤ 1 ∧ 1 < (↑(List.length r0) : Int) then
           if 1 < List.length r0 then
           Option.bind (strings_TrimPrefix (List.getD r0 1 ByteArray.empty) (ByteArray.mk #[(45 : UInt8)])) fun r4 =>
           if (↑(ByteArray.size r4) : Int) > 6 then
            some ((jag (List.getD r0 0 ByteArray.empty), 0, 0, 0, 0, false))
           else
            if (0 : Int) ≤ 2 ∧ 2 < (↑(List.length r0) : Int) then
            if 2 < List.length r0 then
             if (jbL (List.getD r0 2 ByteArray.empty)) = true then
             if ByteArray.size (List.getD r0 2 ByteArray.empty) ≤ 1000000 then
              Option.bind (strconv_Itoa (jag (List.getD r0 2 ByteArray.empty))) fun r5 =>
              if (0 : Int) ≤ 2 ∧ 2 < (↑(List.length r0) : Int) then
              if 2 < List.length r0 then
               if (r5 != List.getD r0 2 ByteArray.empty) = true then
               some ((jag (List.getD r0 0 ByteArray.empty), jag (List.getD r0 1 ByteArray.empty), 0, 0, 0, false))
               else
               if (0 : Int) ≤ 2 ∧ 2 < (↑(List.length r0) : Int) then
                if 2 < List.length r0 then
                Option.bind (strings_TrimPrefix (List.getD r0 2 ByteArray.empty) (ByteArray.mk #[(45 : UInt8)])) fun r6 =>
                if (↑(ByteArray.size r6) : Int) > 6 then
                 some ((jag (List.getD r0 0 ByteArray.empty), jag (List.getD r0 1 ByteArray.empty), 0, 0, 0, false))
                else
                 if (0 : Int) ≤ 3 ∧ 3 < (↑(List.length r0) : Int) then
                 if 3 < List.length r0 then
                  if (jbL (List.getD r0 3 ByteArray.empty)) = true then
                  if ByteArray.size (List.getD r0 3 ByteArray.empty) ≤ 1000000 then
                   Option.bind (strconv_Itoa (jag (List.getD r0 3 ByteArray.empty))) fun r7 =>
                   if (0 : Int) ≤ 3 ∧ 3 < (↑(List.length r0) : Int) then
                   if 3 < List.length r0 then
                    if (r7 != List.getD r0 3 ByteArray.empty) = true then
                    some ((jag (List.getD r0 0 ByteArray.empty), jag (List.getD r0 1 ByteArray.empty), jag (List.getD r0 2 ByteArray.empty), 0, 0, false))
                    else
                    if (0 : Int) ≤ 3 ∧ 3 < (↑(List.length r0) : Int) then
                     if 3 < List.length r0 then
                     Option.bind (strings_TrimPrefix (List.getD r0 3 ByteArray.empty) (ByteArray.mk #[(45 : UInt8)])) fun r8 =>
                     if (↑(ByteArray.size r8) : Int) > 6 then
                      some ((jag (List.getD r0 0 ByteArray.empty), jag (List.getD r0 1 ByteArray.empty), jag (List.getD r0 2 ByteArray.empty), 0, 0, false))
                     else
                      if (0 : Int) ≤ 4 ∧ 4 < (↑(List.length r0) : Int) then
                      if 4 < List.length r0 then
                       if (jbL (List.getD r0 4 ByteArray.empty)) = true then
                       if ByteArray.size (List.getD r0 4 ByteArray.empty) ≤ 1000000 then
                        Option.bind (strconv_Itoa (jag (List.getD r0 4 ByteArray.empty))) fun r9 =>
                        if (0 : Int) ≤ 4 ∧ 4 < (↑(List.length r0) : Int) then
                        if 4 < List.length r0 then
                         if (r9 != List.getD r0 4 ByteArray.empty) = true then
                         some ((jag (List.getD r0 0 ByteArray.empty), jag (List.getD r0 1 ByteArray.empty), jag (List.getD r0 2 ByteArray.empty), jag (List.getD r0 3 ByteArray.empty), 0, false))
                         else
                         if (0 : Int) ≤ 4 ∧ 4 < (↑(List.length r0) : Int) then
                          if 4 < List.length r0 then
                          Option.bind (strings_TrimPrefix (List.getD r0 4 ByteArray.empty) (ByteArray.mk #[(45 : UInt8)])) fun r10 =>
                          if (↑(ByteArray.size r10) : Int) > 6 then
                           some ((jag (List.getD r0 0 ByteArray.empty), jag (List.getD r0 1 ByteArray.empty), jag (List.getD r0 2 ByteArray.empty), jag (List.getD r0 3 ByteArray.empty), 0, false))
                          else
                           some ((jag (List.getD r0 0 ByteArray.empty), jag (List.getD r0 1 ByteArray.empty), jag (List.getD r0 2 ByteArray.empty), jag (List.getD r0 3 ByteArray.empty), jag (List.getD r0 4 ByteArray.empty), true))
                          else none
                         else none
                        else none
                        else none
                       else none
                       else
                       if ByteArray.size (List.getD r0 4 ByteArray.empty) ≤ 1000000 then
                        some ((jag (List.getD r0 0 ByteArray.empty), jag (List.getD r0 1 ByteArray.empty), jag (List.getD r0 2 ByteArray.empty), jag (List.getD r0 3 ByteArray.empty), 0, false))
                       else none
                      else none
                      else none
                     else none
                    else none
                   else none
                   else none
                  else none
                  else
                  if ByteArray.size (List.getD r0 3 ByteArray.empty) ≤ 1000000 then
                   some ((jag (List.getD r0 0 ByteArray.empty), jag (List.getD r0 1 ByteArray.empty), jag (List.getD r0 2 ByteArray.empty), 0, 0, false))
                  else none
                 else none
                 else none
                else none
               else none
              else none
              else none
             else none
             else
             if ByteArray.size (List.getD r0 2 ByteArray.empty) ≤ 1000000 then
              some ((jag (List.getD r0 0 ByteArray.empty), jag (List.getD r0 1 ByteArray.empty), 0, 0, 0, false))
             else none
            else none
            else none
           else none
          else none
         else none
         else none
        else none
        else
        if ByteArray.size (List.getD r0 1 ByteArray.empty) ≤ 1000000 then
         some ((jag (List.getD r0 0 ByteArray.empty), 0, 0, 0, 0, false))
        else none
       else none
       else none
      else none
     else none
    else none
    else none
   else none
   else
   if ByteArray.size (List.getD r0 0 ByteArray.empty) ≤ 1000000 then
    some (((0 : Int), 0, 0, 0, 0, false))
   else none
  else none
  else none
def jew : List A → Option (Prop × List RV)
 | [.d (.s t)] => some (ok (y4 t), [.s [.i .i64 ((val (y4 t)).1), .i .i64 ((val (y4 t)).2.1), .i .i64 ((val (y4 t)).2.2.1), .i .i64 ((val (y4 t)).2.2.2.1), .i .i64 ((val (y4 t)).2.2.2.2.1)], .d (.b ((val (y4 t)).2.2.2.2.2))])
 | _ => none
abbrev sp_23 : jaa → jaa := ja3 23 true (jaG jgX jew)
def jlp (t : ByteArray) : T (Int × Int × Int × Int × Int × Bool) :=
 .obC ((0 : Int) ≤ 0 ∧ (0 : Int) < 3) (by decide)
 (.obC ((0 : Int) ≤ 1 ∧ (1 : Int) < 3) (by decide)
 (.obC ((0 : Int) ≤ 2 ∧ (2 : Int) < 3) (by decide)
 (.obC ((0 : Int) ≤ 0 ∧ (0 : Int) < 2) (by decide)
 (.obC ((0 : Int) ≤ 1 ∧ (1 : Int) < 2) (by decide)
 (.call (strings_Split t (ByteArray.mk #[(32 : UInt8)])) fun r0 =>
 .brB ((↑(List.length r0) : Int) != 5)
 (.obT
 (.obT
 (.rc ((((0 : Int), 0, 0, 0, 0, false))))))
 (.obC ((0 : Int) ≤ 0 ∧ (0 : Int) < 5) (by decide)
 (.obP ((0 : Int) ≤ 0 ∧ 0 < (↑(List.length r0) : Int))
 (.obP (0 < List.length r0)
 (.brB (jbL (List.getD r0 0 ByteArray.empty))
 (.obP (ByteArray.size (List.getD r0 0 ByteArray.empty) ≤ 1000000)
 (.call (strconv_Itoa (jag (List.getD r0 0 ByteArray.empty))) fun r1 =>
 .obP ((0 : Int) ≤ 0 ∧ 0 < (↑(List.length r0) : Int))
 (.obP (0 < List.length r0)
 (.brB (r1 != List.getD r0 0 ByteArray.empty)
 (.obT
 (.obT
 (.rc ((((0 : Int), 0, 0, 0, 0, false))))))
 (.obP ((0 : Int) ≤ 0 ∧ 0 < (↑(List.length r0) : Int))
 (.obP (0 < List.length r0)
 (.call (strings_TrimPrefix (List.getD r0 0 ByteArray.empty) (ByteArray.mk #[(45 : UInt8)])) fun r2 =>
 .brP ((↑(ByteArray.size r2) : Int) > 6)
 (.obT
 (.obT
 (.rc ((((0 : Int), 0, 0, 0, 0, false))))))
 (.obC ((0 : Int) ≤ 1 ∧ (1 : Int) < 5) (by decide)
 (.obP ((0 : Int) ≤ 1 ∧ 1 < (↑(List.length r0) : Int))
 (.obP (1 < List.length r0)
 (.brB (jbL (List.getD r0 1 ByteArray.empty))
 (.obP (ByteArray.size (List.getD r0 1 ByteArray.empty) ≤ 1000000)
 (.call (strconv_Itoa (jag (List.getD r0 1 ByteArray.empty))) fun r3 =>
 .obP ((0 : Int) ≤ 1 ∧ 1 < (↑(List.length r0) : Int))
 (.obP (1 < List.length r0)
 (.brB (r3 != List.getD r0 1 ByteArray.empty)
 (.obT
 (.obT
 (.rc (((jag (List.getD r0 0 ByteArray.empty), 0, 0, 0, 0, false))))))
 (.obP ((0 : Int) ≤ 1 ∧ 1 < (↑(List.length r0) : Int))
 (.obP (1 < List.length r0)
 (.call (strings_TrimPrefix (List.getD r0 1 ByteArray.empty) (ByteArray.mk #[(45 : UInt8)])) fun r4 =>
 .brP ((↑(ByteArray.size r4) : Int) > 6)
 (.obT
 (.obT
 (.rc (((jag (List.getD r0 0 ByteArray.empty), 0, 0, 0, 0, false))))))
 (.obC ((0 : Int) ≤ 2 ∧ (2 : Int) < 5) (by decide)
 (.obP ((0 : Int) ≤ 2 ∧ 2 < (↑(List.length r0) : Int))
 (.obP (2 < List.length r0)
 (.brB (jbL (List.getD r0 2 ByteArray.empty))
 (.obP (ByteArray.size (List.getD r0 2 ByteArray.empty) ≤ 1000000)
 (.call (strconv_Itoa (jag (List.getD r0 2 ByteArray.empty))) fun r5 =>
 .obP ((0 : Int) ≤ 2 ∧ 2 < (↑(List.length r0) : Int))
 (.obP (2 < List.length r0)
 (.brB (r5 != List.getD r0 2 ByteArray.empty)
 (.obT
 (.obT
 (.rc (((jag (List.getD r0 0 ByteArray.empty), jag (List.getD r0 1 ByteArray.empty), 0, 0, 0, false))))))
 (.obP ((0 : Int) ≤ 2 ∧ 2 < (↑(List.length r0) : Int))
 (.obP (2 < List.length r0)
 (.call (strings_TrimPrefix (List.getD r0 2 ByteArray.empty) (ByteArray.mk #[(45 : UInt8)])) fun r6 =>
 .brP ((↑(ByteArray.size r6) : Int) > 6)
 (.obT
 (.obT
 (.rc (((jag (List.getD r0 0 ByteArray.empty), jag (List.getD r0 1 ByteArray.empty), 0, 0, 0, false))))))
 (.obC ((0 : Int) ≤ 3 ∧ (3 : Int) < 5) (by decide)
 (.obP ((0 : Int) ≤ 3 ∧ 3 < (↑(List.length r0) : Int))
 (.obP (3 < List.length r0)
 (.brB (jbL (List.getD r0 3 ByteArray.empty))
 (.obP (ByteArray.size (List.getD r0 3 ByteArray.empty) ≤ 1000000)
 (.call (strconv_Itoa (jag (List.getD r0 3 ByteArray.empty))) fun r7 =>
 .obP ((0 : Int) ≤ 3 ∧ 3 < (↑(List.length r0) : Int))
 (.obP (3 < List.length r0)
 (.brB (r7 != List.getD r0 3 ByteArray.empty)
 (.obT
 (.obT
 (.rc (((jag (List.getD r0 0 ByteArray.empty), jag (List.getD r0 1 ByteArray.empty), jag (List.getD r0 2 ByteArray.empty), 0, 0, false))))))
 (.obP ((0 : Int) ≤ 3 ∧ 3 < (↑(List.length r0) : Int))
 (.obP (3 < List.length r0)
 (.call (strings_TrimPrefix (List.getD r0 3 ByteArray.empty) (ByteArray.mk #[(45 : UInt8)])) fun r8 =>
 .brP ((↑(ByteArray.size r8) : Int) > 6)
 (.obT
 (.obT
 (.rc (((jag (List.getD r0 0 ByteArray.empty), jag (List.getD r0 1 ByteArray.empty), jag (List.getD r0 2 ByteArray.empty), 0, 0, false))))))
 (.obC ((0 : Int) ≤ 4 ∧ (4 : Int) < 5) (by decide)
 (.obP ((0 : Int) ≤ 4 ∧ 4 < (↑(List.length r0) : Int))
 (.obP (4 < List.length r0)
 (.brB (jbL (List.getD r0 4 ByteArray.empty))
 (.obP (ByteArray.size (List.getD r0 4 ByteArray.empty) ≤ 1000000)
 (.call (strconv_Itoa (jag (List.getD r0 4 ByteArray.empty))) fun r9 =>
 .obP ((0 : Int) ≤ 4 ∧ 4 < (↑(List.length r0) : Int))
 (.obP (4 < List.length r0)
 (.brB (r9 != List.getD r0 4 ByteArray.empty)
 (.obT
 (.obT
 (.rc (((jag (List.getD r0 0 ByteArray.empty), jag (List.getD r0 1 ByteArray.empty), jag (List.getD r0 2 ByteArray.empty), jag (List.getD r0 3 ByteArray.empty), 0, false))))))
 (.obP ((0 : Int) ≤ 4 ∧ 4 < (↑(List.length r0) : Int))
 (.obP (4 < List.length r0)
 (.call (strings_TrimPrefix (List.getD r0 4 ByteArray.empty) (ByteArray.mk #[(45 : UInt8)])) fun r10 =>
 .brP ((↑(ByteArray.size r10) : Int) > 6)
 (.obT
 (.obT
 (.rc (((jag (List.getD r0 0 ByteArray.empty), jag (List.getD r0 1 ByteArray.empty), jag (List.getD r0 2 ByteArray.empty), jag (List.getD r0 3 ByteArray.empty), 0, false))))))
 (.obT
 (.obT
 (.rc (((jag (List.getD r0 0 ByteArray.empty), jag (List.getD r0 1 ByteArray.empty), jag (List.getD r0 2 ByteArray.empty), jag (List.getD r0 3 ByteArray.empty), jag (List.getD r0 4 ByteArray.empty), true)))))))))))))
 (.obP (ByteArray.size (List.getD r0 4 ByteArray.empty) ≤ 1000000)
 (.obT
 (.obT
 (.rc (((jag (List.getD r0 0 ByteArray.empty), jag (List.getD r0 1 ByteArray.empty), jag (List.getD r0 2 ByteArray.empty), jag (List.getD r0 3 ByteArray.empty), 0, false))))))))))))))))))
 (.obP (ByteArray.size (List.getD r0 3 ByteArray.empty) ≤ 1000000)
 (.obT
 (.obT
 (.rc (((jag (List.getD r0 0 ByteArray.empty), jag (List.getD r0 1 ByteArray.empty), jag (List.getD r0 2 ByteArray.empty), 0, 0, false))))))))))))))))))
 (.obP (ByteArray.size (List.getD r0 2 ByteArray.empty) ≤ 1000000)
 (.obT
 (.obT
 (.rc (((jag (List.getD r0 0 ByteArray.empty), jag (List.getD r0 1 ByteArray.empty), 0, 0, 0, false))))))))))))))))))
 (.obP (ByteArray.size (List.getD r0 1 ByteArray.empty) ≤ 1000000)
 (.obT
 (.obT
 (.rc (((jag (List.getD r0 0 ByteArray.empty), 0, 0, 0, 0, false))))))))))))))))))
 (.obP (ByteArray.size (List.getD r0 0 ByteArray.empty) ≤ 1000000)
 (.obT
 (.obT
 (.rc ((((0 : Int), 0, 0, 0, 0, false))))))))))))))))
theorem jkD (t : ByteArray) (r : Int × Int × Int × Int × Int × Bool) (h : Option.bind (y4 t) some = some r) : jaI Tryz.f23 ((sp_22 (sp_49 (sp_20 (sp_50 sp0))))) (fun _ _ _ => none) [.d (.s t)] [.s [.i .i64 r.1, .i .i64 r.2.1, .i .i64 r.2.2.1, .i .i64 r.2.2.2.1, .i .i64 r.2.2.2.2.1], .d (.b r.2.2.2.2.2)] :=
 T.vc (t := jlp t) (by kernel_rfl) (by kernel_rfl) h
theorem jkE : jah Tryz.prog 23 true (jaG jgX jew) := by
 refine jaR (sp := (sp_22 (sp_49 (sp_20 (sp_50 sp0))))) (fn := Tryz.f23) (body := jai Tryz.f23) mixed (sp_22_ok (sp_49_ok (sp_20_ok (sp_50_ok jam)))) Tryz.func23 (by kernel_rfl) (by kernel_rfl) fun as_ ob rs h ho => ?_
 unfold jew at h
 split at h
 ·rename_i t
  cases h
  exact ⟨Nat.le_of_ble_eq_true rfl, _, _, jkD t _ (ja7 ho)⟩
 ·cases h
theorem sp_23_ok {sp : jaa} (h : jac Tryz.prog sp) : jac Tryz.prog (sp_23 sp) := jax jkE h
def je2 : List (Option Cont) := [none]
def y23 (r0 : List ByteArray) (x0 : (Int × List (List Int))) : Option ((Int × List (List Int)) ⊕ (Unit ⊕ (List (List Int)))) :=
 if x0.1 < (↑(List.length r0) : Int) then
  if 0 ≤ x0.1 ∧ x0.1 < (↑(List.length r0) : Int) then
  if Int.toNat x0.1 < List.length r0 then
   Option.bind (y4 (List.getD r0 (Int.toNat x0.1) ByteArray.empty)) fun r1 =>
   if (!r1.2.2.2.2.2) = true then
   some (.inr ((.inl ())))
   else
   if (List.length x0.2 + List.length [[r1.1, r1.2.1, r1.2.2.1, r1.2.2.2.1, r1.2.2.2.2.1]]) * 40 ≤ 140737488355328 ∧ List.length x0.2 + List.length [[r1.1, r1.2.1, r1.2.2.1, r1.2.2.2.1, r1.2.2.2.2.1]] ≤ 9223372036854775807 then
    some (.inl ((wrap .i64 (x0.1 + 1), x0.2 ++ [[r1.1, r1.2.1, r1.2.2.1, r1.2.2.2.1, r1.2.2.2.2.1]])))
   else none
  else none
  else none
 else
  some (.inr (.inr x0.2))
def jg4 (u0 : Unit) : Option (List (List Int) × Int) :=
 some (([], 7))
def y49 (u1 : List (List Int)) : Option (List (List Int) × Int) :=
 if List.length u1 ≤ 1000000000 then
  if (Sx06.chkE u1 != 0) = true then
  some ([], Sx06.chkE u1)
  else
  some ((u1, 0))
 else none
def y29 : (Unit ⊕ (List (List Int))) → Option (List (List Int) × Int) :=
 (Sum.elim (jg4) (y49))
def y22 (s : ByteArray) : Option (List (List Int) × Int) :=
 if (s == ByteArray.mk #[]) = true then
  some (([], 0))
 else
  Option.bind (strings_Split s (ByteArray.mk #[(59 : UInt8)])) fun r0 =>
  Option.bind (jad (y23 r0) big (((0 : Int), []))) (y29)
def y57 : List A → Option (Prop × List RV)
 | [.d (.s s)] => some (ok (y22 s), [.row 42 (.recs 5 ((val (y22 s)).1)), .d (.i .i64 ((val (y22 s)).2))])
 | _ => none
abbrev sp_8 : jaa → jaa := ja3 8 true (jaG je2 y57)
theorem jii (s : ByteArray) (r : List (List Int) × Int) (h : Option.bind (y22 s) some = some r) : jaI Tryz.f8 ((sp_22 (sp_23 (sp_24 sp0)))) (fun gs id _ => match id with
 | 0 => some ⟨(Int × List (List Int)) × Nat, fun z => ⟨[(4, .w (.c (.o 1))), (13, .w (.c (.o 2))), (14, .w (.c (.d (.i .i64 ((↑(List.length (val (strings_Split s (ByteArray.mk #[(59 : UInt8)])))) : Int)))))), (15, .w (.c (.d (.i .i64 (Prod.fst (Prod.fst z))))))], [(1, .row 42 (.recs 5 (Prod.snd (Prod.fst z)))), (2, .row 9 (.strs (val (strings_Split s (ByteArray.mk #[(59 : UInt8)])))))], 3⟩, fun z => Option.bind (jad (y23 (val (strings_Split s (ByteArray.mk #[(59 : UInt8)])))) (Prod.snd z) (Prod.fst z)) (fun y0 => Option.bind (y29 y0) some) = some r, fun z => Prod.snd z⟩
 | _ => none) [.d (.s s)] [.row 42 (.recs 5 r.1), .d (.i .i64 r.2)] := by
 refine Eq.mp (by kernel_rfl : (
 Br (s == ByteArray.mk #[])
  ((Ob True ∧
 (Ob True ∧
 (Ob (List.length r.1 = (0 : Nat)) ∧
 (Ob ((0 : Int) = r.2) ∧
 True)))))
  ((Ob (ok (strings_Split s (ByteArray.mk #[(59 : UInt8)]))) ∧
  ((∃ (v0 : (Int × List (List Int)) × Nat), (Ob ((Option.bind (jad (y23 (val (strings_Split s (ByteArray.mk #[(59 : UInt8)])))) v0.2 v0.1) fun y0 => Option.bind (y29 y0) some) = some r) ∧
 (Ob ((↑(List.length (val (strings_Split s (ByteArray.mk #[(59 : UInt8)])))) : Int) = (↑(List.length (val (strings_Split s (ByteArray.mk #[(59 : UInt8)])))) : Int)) ∧
 (Ob ((0 : Int) = v0.1.1) ∧
 (Ob (List.length v0.1.2 = (0 : Nat)) ∧
 (Ob (val (strings_Split s (ByteArray.mk #[(59 : UInt8)])) = val (strings_Split s (ByteArray.mk #[(59 : UInt8)]))) ∧
 True)))))) ∧
  (∀ (v0 : (Int × List (List Int)) × Nat), ((Option.bind (jad (y23 (val (strings_Split s (ByteArray.mk #[(59 : UInt8)])))) v0.2 v0.1) fun y0 => Option.bind (y29 y0) some) = some r →
 Br (decide (v0.1.1 < (↑(List.length (val (strings_Split s (ByteArray.mk #[(59 : UInt8)])))) : Int)))
  ((Ob (0 ≤ v0.1.1 ∧ v0.1.1 < (↑(List.length (val (strings_Split s (ByteArray.mk #[(59 : UInt8)])))) : Int)) ∧
 (Ob (Int.toNat v0.1.1 < List.length (val (strings_Split s (ByteArray.mk #[(59 : UInt8)])))) ∧
 (Ob (ok (y4 (List.getD (val (strings_Split s (ByteArray.mk #[(59 : UInt8)]))) (Int.toNat v0.1.1) ByteArray.empty))) ∧
 Br (!(val (y4 (List.getD (val (strings_Split s (ByteArray.mk #[(59 : UInt8)]))) (Int.toNat v0.1.1) ByteArray.empty))).2.2.2.2.2)
  ((Ob True ∧
 (Ob True ∧
 (Ob (List.length r.1 = (0 : Nat)) ∧
 (Ob ((7 : Int) = r.2) ∧
 True)))))
  ((Ob ((List.length v0.1.2 + List.length [[(val (y4 (List.getD (val (strings_Split s (ByteArray.mk #[(59 : UInt8)]))) (Int.toNat v0.1.1) ByteArray.empty))).1, (val (y4 (List.getD (val (strings_Split s (ByteArray.mk #[(59 : UInt8)]))) (Int.toNat v0.1.1) ByteArray.empty))).2.1, (val (y4 (List.getD (val (strings_Split s (ByteArray.mk #[(59 : UInt8)]))) (Int.toNat v0.1.1) ByteArray.empty))).2.2.1, (val (y4 (List.getD (val (strings_Split s (ByteArray.mk #[(59 : UInt8)]))) (Int.toNat v0.1.1) ByteArray.empty))).2.2.2.1, (val (y4 (List.getD (val (strings_Split s (ByteArray.mk #[(59 : UInt8)]))) (Int.toNat v0.1.1) ByteArray.empty))).2.2.2.2.1]]) * 40 ≤ 140737488355328 ∧ List.length v0.1.2 + List.length [[(val (y4 (List.getD (val (strings_Split s (ByteArray.mk #[(59 : UInt8)]))) (Int.toNat v0.1.1) ByteArray.empty))).1, (val (y4 (List.getD (val (strings_Split s (ByteArray.mk #[(59 : UInt8)]))) (Int.toNat v0.1.1) ByteArray.empty))).2.1, (val (y4 (List.getD (val (strings_Split s (ByteArray.mk #[(59 : UInt8)]))) (Int.toNat v0.1.1) ByteArray.empty))).2.2.1, (val (y4 (List.getD (val (strings_Split s (ByteArray.mk #[(59 : UInt8)]))) (Int.toNat v0.1.1) ByteArray.empty))).2.2.2.1, (val (y4 (List.getD (val (strings_Split s (ByteArray.mk #[(59 : UInt8)]))) (Int.toNat v0.1.1) ByteArray.empty))).2.2.2.2.1]] ≤ 9223372036854775807) ∧
  (∃ (v1 : (Int × List (List Int)) × Nat), (Ob ((Option.bind (jad (y23 (val (strings_Split s (ByteArray.mk #[(59 : UInt8)])))) v1.2 v1.1) fun y0 => Option.bind (y29 y0) some) = some r) ∧
 (Ob (v1.2 < v0.2) ∧
 (Ob ((↑(List.length (val (strings_Split s (ByteArray.mk #[(59 : UInt8)])))) : Int) = (↑(List.length (val (strings_Split s (ByteArray.mk #[(59 : UInt8)])))) : Int)) ∧
 (Ob (wrap .i64 (v0.1.1 + 1) = v1.1.1) ∧
 (Ob (v0.1.2 ++ [[(val (y4 (List.getD (val (strings_Split s (ByteArray.mk #[(59 : UInt8)]))) (Int.toNat v0.1.1) ByteArray.empty))).1, (val (y4 (List.getD (val (strings_Split s (ByteArray.mk #[(59 : UInt8)]))) (Int.toNat v0.1.1) ByteArray.empty))).2.1, (val (y4 (List.getD (val (strings_Split s (ByteArray.mk #[(59 : UInt8)]))) (Int.toNat v0.1.1) ByteArray.empty))).2.2.1, (val (y4 (List.getD (val (strings_Split s (ByteArray.mk #[(59 : UInt8)]))) (Int.toNat v0.1.1) ByteArray.empty))).2.2.2.1, (val (y4 (List.getD (val (strings_Split s (ByteArray.mk #[(59 : UInt8)]))) (Int.toNat v0.1.1) ByteArray.empty))).2.2.2.2.1]] = v1.1.2) ∧
 (Ob (val (strings_Split s (ByteArray.mk #[(59 : UInt8)])) = val (strings_Split s (ByteArray.mk #[(59 : UInt8)]))) ∧
 True)))))))))))))
  ((Ob (List.length v0.1.2 ≤ 1000000000) ∧
 Br (Sx06.chkE v0.1.2 != 0)
  ((Ob True ∧
 (Ob True ∧
 (Ob (List.length r.1 = (0 : Nat)) ∧
 (Ob (Sx06.chkE v0.1.2 = r.2) ∧
 True)))))
  ((Ob True ∧
 (Ob True ∧
 (Ob (v0.1.2 = r.1) ∧
 (Ob ((0 : Int) = r.2) ∧
 True))))))))))))) = _) ?_
 refine jbd h (fun h => ?_) (fun h => ?_)
 ·refine jae ?_
  refine jae ?_
  exact jal h (fun e => by subst e; exact (by repeat' (first | exact trivial | exact ⟨rfl⟩ | refine And.intro ?_ ?_)))
 ·refine jcp h fun h => ?_
  refine ⟨⟨(((0 : Int), []), big), ⟨jba h⟩, (by repeat' (first | exact trivial | exact ⟨rfl⟩ | refine And.intro ?_ ?_))⟩, fun z2 hz2 => ?_⟩
  obtain ⟨k2, hm2, h⟩ := jaN hz2
  refine jaD h (fun h => ?_) (fun h => ?_)
  ·refine jaj h fun h => ?_
   refine jaj h fun h => ?_
   refine jcp h fun h => ?_
   refine jbd h (fun h => ?_) (fun h => ?_)
   ·have h := jaq h
    refine jae ?_
    refine jae ?_
    exact jal h (fun e => by subst e; exact (by repeat' (first | exact trivial | exact ⟨rfl⟩ | refine And.intro ?_ ?_)))
   ·refine jaj h fun h => ?_
    exact ⟨((wrap .i64 ((Prod.fst z2).1 + 1), (Prod.fst z2).2 ++ [[(val (y4 (List.getD (val (strings_Split s (ByteArray.mk #[(59 : UInt8)]))) (Int.toNat (Prod.fst z2).1) ByteArray.empty))).1, (val (y4 (List.getD (val (strings_Split s (ByteArray.mk #[(59 : UInt8)]))) (Int.toNat (Prod.fst z2).1) ByteArray.empty))).2.1, (val (y4 (List.getD (val (strings_Split s (ByteArray.mk #[(59 : UInt8)]))) (Int.toNat (Prod.fst z2).1) ByteArray.empty))).2.2.1, (val (y4 (List.getD (val (strings_Split s (ByteArray.mk #[(59 : UInt8)]))) (Int.toNat (Prod.fst z2).1) ByteArray.empty))).2.2.2.1, (val (y4 (List.getD (val (strings_Split s (ByteArray.mk #[(59 : UInt8)]))) (Int.toNat (Prod.fst z2).1) ByteArray.empty))).2.2.2.2.1]]), k2), ⟨jaO h⟩, ⟨ja2 hm2.symm⟩, (by repeat' (first | exact trivial | exact ⟨rfl⟩ | refine And.intro ?_ ?_))⟩
  ·have h := jaq h
   refine jaj h fun h => ?_
   refine jbd h (fun h => ?_) (fun h => ?_)
   ·refine jae ?_
    refine jae ?_
    exact jal h (fun e => by subst e; exact (by repeat' (first | exact trivial | exact ⟨rfl⟩ | refine And.intro ?_ ?_)))
   ·refine jae ?_
    refine jae ?_
    exact jal h (fun e => by subst e; exact (by repeat' (first | exact trivial | exact ⟨rfl⟩ | refine And.intro ?_ ?_)))
theorem jij : jah Tryz.prog 8 true (jaG je2 y57) := by
 refine jaR (sp := (sp_22 (sp_23 (sp_24 sp0)))) (fn := Tryz.f8) (body := jai Tryz.f8) mixed (sp_22_ok (sp_23_ok (sp_24_ok jam))) Tryz.func8 (by kernel_rfl) (by kernel_rfl) fun as_ ob rs h ho => ?_
 unfold y57 at h
 split at h
 ·rename_i s
  cases h
  exact ⟨Nat.le_of_ble_eq_true rfl, _, _, jii s _ (ja7 ho)⟩
 ·cases h
theorem sp_8_ok {sp : jaa} (h : jac Tryz.prog sp) : jac Tryz.prog (sp_8 sp) := jax jij h
def jiH : List (Option Cont) := []
def jfp : Option Bool :=
 some true
def jfH : List A → Option (Prop × List RV)
 | [] => some (ok (jfp), [.d (.b ((val (jfp))))])
 | _ => none
abbrev sp_4 : jaa → jaa := ja3 4 true (jaG jiH jfH)
def jna : T (Bool) :=
 .obC (ok y39) (by decide)
 (.obC (List.length [[(8192 : Int), 0, 0, (-8192 : Int), 0]] ≤ 1000000000) (by decide)
 (.obC (ok y39) (by decide)
 (.obT
 (.obC (List.length [(2 : Int), 1, 1] ≤ 1000000000) (by decide)
 (.obC (ok y39) (by decide)
 (.obC (ok (y47 [[(8192 : Int), 0, 0, (-8192 : Int), 0]] (0 : Int) (1 : Int) (1 : Int))) (by decide)
 (.obC (List.length (Sx06.impL [[(8192 : Int), 0, 0, (-8192 : Int), 0]] (100 : Int) (5 : Int)) ≤ 1000000000) (by decide)
 (.obT
 (.rc (true))))))))))
theorem jmt (r : Bool) (h : Option.bind (jfp) some = some r) : jaI Tryz.f4 ((sp_13 (sp_15 (sp_16 (sp_14 (sp_17 (sp_18 sp0))))))) (fun _ _ _ => none) [] [.d (.b r)] :=
 T.vc (t := jna) (by kernel_rfl) (by kernel_rfl) h
theorem jmu : jah Tryz.prog 4 true (jaG jiH jfH) := by
 refine jaR (sp := (sp_13 (sp_15 (sp_16 (sp_14 (sp_17 (sp_18 sp0))))))) (fn := Tryz.f4) (body := jai Tryz.f4) mixed (sp_13_ok (sp_15_ok (sp_16_ok (sp_14_ok (sp_17_ok (sp_18_ok jam)))))) Tryz.func4 (by kernel_rfl) (by kernel_rfl) fun as_ ob rs h ho => ?_
 unfold jfH at h
 split at h
 ·cases h
  exact ⟨Nat.le_of_ble_eq_true rfl, _, _, jmt _ (ja7 ho)⟩
 ·cases h
theorem sp_4_ok {sp : jaa} (h : jac Tryz.prog sp) : jac Tryz.prog (sp_4 sp) := jax jmu h
end Go.Sh
end

section
namespace Go.Sh
open Go Go.Proofs Go.RowKit Go.Sx
open Go.Sx06 (jgv)
def jcl (n : Int) : ByteArray := ⟨(Lib.itoa n).toArray⟩
def jbk (r : List Int) (k : Nat) : List ByteArray := (List.range k).map fun j => jcl (r.getD j 0)
def jb2 (r : List Int) : ByteArray := ⟨(Lib.join ((jbk r 5).map (·.data.toList)) [32]).toArray⟩
def jaU (c : List (List Int)) (k : Nat) : List ByteArray := (List.range k).map fun i => jb2 (c.getD i [])
def jdk (c : List (List Int)) : ByteArray := ⟨(Lib.join ((jaU c c.length).map (·.data.toList)) [59]).toArray⟩
def jov : Sx.Spec := fun vs hp nx => match vs with
 | [.w (.a [.d (.i .i64 b0), .d (.i .i64 b1), .d (.i .i64 b2), .d (.i .i64 a0), .d (.i .i64 a1)])] => some (.leaf ⟨True, .w (.c (.fn 43 [nx])), (nx, .box 42 [.d (.i .i64 b0), .d (.i .i64 b1), .d (.i .i64 b2), .d (.i .i64 a0), .d (.i .i64 a1)]) :: hp, nx + 1⟩)
 | _ => none
theorem jro : jah Tryz.prog 19 true jov := by
 refine .inl ⟨jcA (body := jai Tryz.f19) Tryz.func19 (by kernel_rfl) (by kernel_rfl), fun ρ B w args hp nx t h ho hl hh hB => ?_⟩
 unfold jov at h
 split at h
 ·rename_i b0 b1 b2 a0 a1
  cases h
  have hargs : ([V.w (.a [.d (.i .i64 b0), .d (.i .i64 b1), .d (.i .i64 b2), .d (.i .i64 a0), .d (.i .i64 a1)])].map (V.val ρ)).toArray = #[.agg (Sx06u.agg5 b0 b1 b2 a0 a1)] := rfl
  rw [hargs]
  refine (callsIn_wide.1 (Sx06u.coefs_in 9 b0 b1 b2 a0 a1 w)).mono ?_
  rintro e w' ⟨rfl, rfl⟩
  refine ⟨upd ρ nx (.pointer (some ⟨w.heap.size, 0, none⟩)), ?_, ?_⟩
  ·simp [RT.sel, V.val, W.val, C.val]
  ·refine jb7 hh hB _ _ _ (.box 42 [.d (.i .i64 b0), .d (.i .i64 b1), .d (.i .i64 b2), .d (.i .i64 a0), .d (.i .i64 a1)]) rfl rfl (show V.lt (nx + 1) (.w (.c (.fn 43 [nx]))) from fun x hx => ?_) true (fun x hx => ?_) ⟨w.heap.size, upd_same _ _ _, fun hb => absurd (hB _ hb) (Nat.lt_irrefl _), ?_⟩ (by simp [O.blk, base])
   ·simp only [List.mem_singleton] at hx
    subst hx
    exact Nat.lt_succ_self _
   ·simp only [List.mem_cons, List.not_mem_nil, or_false] at hx
    rcases hx with rfl | rfl | rfl | rfl | rfl <;> trivial
   ·rw [heap_alloc_new]
    rfl
 ·cases h
abbrev sp_19 : jaa → jaa := ja3 19 true jov
theorem sp_19_ok {sp : jaa} (h : jac Tryz.prog sp) : jac Tryz.prog (sp_19 sp) := jax jro h
def jcN : List Nat → Code → Code
 | [], c => c
 | 0 :: p, .seq x _ => jcN p x
 | _ :: p, .seq _ y => jcN p y
 | 0 :: p, .cond _ x _ => jcN p x
 | _ :: p, .cond _ _ y => jcN p y
 | _ :: p, .block _ c => jcN p c
 | _ :: p, .loop c => jcN p c
 | 0 :: p, .rangeFunc _ _ a _ => jcN p a
 | _ :: p, .rangeFunc _ _ _ b => jcN p b
 | _, c => c
noncomputable def fcB : Code := jai Tryz.f6
noncomputable def fcR2 : Code := jcN [1, 1, 0, 0] fcB
noncomputable def fcL : Code := jcN [1, 1, 0, 1, 0, 0] fcB
noncomputable def fcR3 : Code := jcN [0] fcL
noncomputable def jgJ : Code := jcN [1, 1, 0, 0] fcL
noncomputable def fcR6 : Code := jcN [1, 1, 0, 0] jgJ
noncomputable def fcA : Code := jcN [1, 1, 0, 1, 0, 0] jgJ
noncomputable def fcY : Code := jcN [1, 1, 0, 1, 0, 1] jgJ
noncomputable def fcR9 : Code := jcN [1, 1, 1] jgJ
noncomputable def jqZ : Code := jcN [1, 1, 1] fcL
noncomputable def jq0 : Code := jcN [1, 1, 1, 0] fcB
def stO (c : List (List Int)) (k : Nat) (S : List ByteArray) : St := ⟨[(11, vi .i64 k), (10, vi .i64 (c.length : Int)), (9, .w (.c (.o 0))), (3, .w (.c (.o 1)))], [(1, .row 9 (.strs S)), (0, .ext (.recs 5 c))], 2⟩
def boxR (r : List Int) : O := .box 42 [.d (.i .i64 (r.getD 0 0)), .d (.i .i64 (r.getD 1 0)), .d (.i .i64 (r.getD 2 0)), .d (.i .i64 (r.getD 3 0)), .d (.i .i64 (r.getD 4 0))]
def hpP (c : List (List Int)) (S : List ByteArray) (r : List Int) (T : List ByteArray) : Hp := [(2, boxR r), (3, .box 55 [.o 4]), (4, .row 9 (.strs T)), (1, .row 9 (.strs S)), (0, .ext (.recs 5 c))]
def stP (c : List (List Int)) (k : Nat) (S : List ByteArray) (r : List Int) : St := ⟨[(16, .w (.c (.fn 43 [2]))), (6, .w (.c (.p 3 (0 : Nat) 1 (0 : Nat)))), (11, vi .i64 k), (10, vi .i64 (c.length : Int)), (9, .w (.c (.o 0))), (3, .w (.c (.o 1)))], hpP c S r [], 5⟩
def stQ (c : List (List Int)) (k : Nat) (S : List ByteArray) (r : List Int) (T : List ByteArray) : St := ⟨[(6, .w (.c (.p 3 (0 : Nat) 1 (0 : Nat)))), (11, vi .i64 k), (10, vi .i64 (c.length : Int)), (9, .w (.c (.o 0))), (3, .w (.c (.o 1)))], hpP c S r T, 5⟩
def stY (c : List (List Int)) (S : List ByteArray) (r : List Int) (T : List ByteArray) (n : Int) : St := ⟨[(8, vi .i64 n), (6, .w (.c (.p 3 (0 : Nat) 1 (0 : Nat))))], hpP c S r T, 5⟩
abbrev spF : jaa := sp_19 (sp_20 (sp_21 sp0))
theorem jcJ : jac Tryz.prog spF := sp_19_ok (sp_20_ok (sp_21_ok jam))
abbrev pcF (n0 : Nat) (c : Code) (st : St) (k : St → Prop) : Prop := sx Tryz.prog spF 32 n0 0 (fun _ _ _ => none) (jcx Tryz.prog spF 32) c 0 [] st (fun e st' => match e with | .normal => k st' | _ => False)
def jcu (r : List Int) : Bool := (List.range 5).all fun j => decide (-9223372036854775808 ≤ r.getD j 0) && decide (r.getD j 0 ≤ 9223372036854775807)
theorem jd1 {r : List Int} (h : jcu r = true) {j : Nat} (hj : j < 5) : -9223372036854775808 ≤ r.getD j 0 ∧ r.getD j 0 ≤ 9223372036854775807 := by
 have := List.all_eq_true.1 h j (List.mem_range.2 hj)
 simpa using this
theorem jgK (l : List (List UInt8)) (c : UInt8) (m : Nat) (h : ∀ x ∈ l, x.length ≤ m) : (Lib.join l [c]).length ≤ (m + 1) * l.length := by
 have key : ∀ r : List (List UInt8), (∀ x ∈ r, x.length ≤ m) → (Lib.joinTail [c] r).length ≤ (m + 1) * r.length := by
  intro r
  induction r with
  | nil => intro _; simp [Lib.joinTail]
  | cons y r ih =>
   intro hr
   have h1 := ih fun x hx => hr x (List.mem_cons_of_mem _ hx)
   have h2 := hr y List.mem_cons_self
   simp only [Lib.joinTail, List.map_cons, List.flatten_cons, List.length_append, List.length_cons, List.length_nil] at h1 ⊢
   rw [Nat.mul_succ]
   omega
 cases l with
 | nil => simp [Lib.join_nil]
 | cons x r =>
  have h1 := key r fun y hy => h y (List.mem_cons_of_mem _ hy)
  have h2 := h x List.mem_cons_self
  rw [Lib.join_cons, List.length_append, List.length_cons, Nat.mul_succ]
  omega
theorem jfq (r : List Int) (k : Nat) : (jbk r k).length = k := by simp [jbk]
theorem jfr (c : List (List Int)) (k : Nat) : (jaU c k).length = k := by simp [jaU]
theorem jkb (r : List Int) (k : Nat) : jbk r (k + 1) = jbk r k ++ [jcl (r.getD k 0)] := by simp [jbk, List.range_succ]
theorem jgL (c : List (List Int)) (k : Nat) : jaU c (k + 1) = jaU c k ++ [jb2 (c.getD k [])] := by simp [jaU, List.range_succ]
theorem jmv {r : List Int} (h : jcu r = true) : (jb2 r).data.toList.length ≤ 110 := by
 have := jgK ((jbk r 5).map (·.data.toList)) 32 21 (fun x hx => by
  simp only [jbk, List.map_map, List.mem_map, List.mem_range] at hx
  obtain ⟨j, hj, rfl⟩ := hx
  have hb := jd1 h hj
  exact Lib.itoa_length_le _ hb.1 hb.2)
 rw [List.length_map, jfq] at this
 exact this
theorem jnw {l : List ByteArray} {x : UInt8} (m : Nat) (hl : l.length ≤ 1000000) (h : ∀ y ∈ l, y.data.toList.length ≤ m) (hm : m ≤ 1000) : strings_Join l ⟨#[x]⟩ = some ⟨(Lib.join (l.map (·.data.toList)) [x]).toArray⟩ := by
 unfold strings_Join
 have e := jgK (l.map (·.data.toList)) x m (fun y hy => by
  obtain ⟨z, hz, rfl⟩ := List.mem_map.1 hy
  exact h z hz)
 rw [List.length_map] at e
 have e2 : (m + 1) * l.length ≤ 1001 * 1000000 := Nat.mul_le_mul (by omega) hl
 rw [if_pos ⟨by omega, by show (Lib.join _ [x]).length ≤ _; omega⟩]
theorem jrN {r : List Int} (h : jcu r = true) : strings_Join (jbk r 5) ⟨#[32]⟩ = some (jb2 r) :=
 jnw 21 (by rw [jfq]; omega) (fun y hy => by
  simp only [jbk, List.mem_map, List.mem_range] at hy
  obtain ⟨j, hj, rfl⟩ := hy
  have hb := jd1 h hj
  exact Lib.itoa_length_le _ hb.1 hb.2) (by omega)
theorem jrO {c : List (List Int)} (hl : c.length ≤ 1000000) (h : ∀ r ∈ c, jcu r = true) : strings_Join (jaU c c.length) ⟨#[59]⟩ = some (jdk c) :=
 jnw 110 (by rw [jfr]; omega) (fun y hy => by
  simp only [jaU, List.mem_map, List.mem_range] at hy
  obtain ⟨j, hj, rfl⟩ := hy
  refine jmv (h _ ?_)
  rw [List.getD_eq_getElem?_getD, List.getElem?_eq_getElem hj]
  exact List.getElem_mem hj) (by omega)
theorem p0_vc (c : List (List Int)) : pcF 1 (jhP 2 fcB) ⟨[(0, .w (.c (.o 0)))], [(0, .ext (.recs 5 c))], 1⟩ fun st => pcF 1 fcR2 st fun st' => Le 1 st' (stO c 0 []) := by
 refine Eq.mp (by kernel_rfl : (Ob ((0 : Int) = (↑(0 : Nat) : Int)) ∧ Ob ((↑c.length : Int) = (↑c.length : Int)) ∧ Ob (([] : List ByteArray).length = (0 : Nat)) ∧ Ob (c = c) ∧ True) = _) ?_
 exact ⟨⟨rfl⟩, ⟨rfl⟩, ⟨rfl⟩, ⟨rfl⟩, trivial⟩
theorem p3_vc (c : List (List Int)) (k : Nat) (S : List ByteArray) : pcF 1 fcR3 (stO c k S) fun st' => Le 1 st' ⟨(12, vb (decide ((k : Int) < (c.length : Int)))) :: (stO c k S).tm, (stO c k S).hp, 2⟩ := by
 refine Eq.mp (by kernel_rfl : (Ob (decide ((↑k : Int) < (↑c.length : Int)) = decide ((↑k : Int) < (↑c.length : Int))) ∧
  Ob ((↑k : Int) = (↑k : Int)) ∧ Ob ((↑c.length : Int) = (↑c.length : Int)) ∧ Ob (S = S) ∧ Ob (c = c) ∧ True) = _) ?_
 exact ⟨⟨rfl⟩, ⟨rfl⟩, ⟨rfl⟩, ⟨rfl⟩, ⟨rfl⟩, trivial⟩
theorem p4_vc (c : List (List Int)) (k : Nat) (S : List ByteArray) (hk : k < c.length) : pcF 1 (jhP 2 jgJ) ⟨(12, vb true) :: (stO c k S).tm, (stO c k S).hp, 2⟩ fun st => pcF 1 fcR6 st fun st' => Le 1 st' (stP c k S (c.getD k [])) := by
 refine Eq.mp (by kernel_rfl : (Ob ((0 : Int) ≤ (↑k : Int) ∧ (↑k : Int) < (↑c.length : Int)) ∧
  Ob ((↑k : Int).toNat < c.length) ∧ Ob True ∧ Ob ((0 : Nat) = (0 : Nat)) ∧ Ob ((↑k : Int) = (↑k : Int)) ∧ Ob ((↑c.length : Int) = (↑c.length : Int)) ∧
  Ob ((c.getD (↑k : Int).toNat []).getD (0 : Nat) (0 : Int) = (c.getD k []).getD (0 : Nat) (0 : Int)) ∧
  Ob ((c.getD (↑k : Int).toNat []).getD (1 : Nat) (0 : Int) = (c.getD k []).getD (1 : Nat) (0 : Int)) ∧
  Ob ((c.getD (↑k : Int).toNat []).getD (2 : Nat) (0 : Int) = (c.getD k []).getD (2 : Nat) (0 : Int)) ∧
  Ob ((c.getD (↑k : Int).toNat []).getD (3 : Nat) (0 : Int) = (c.getD k []).getD (3 : Nat) (0 : Int)) ∧
  Ob ((c.getD (↑k : Int).toNat []).getD (4 : Nat) (0 : Int) = (c.getD k []).getD (4 : Nat) (0 : Int)) ∧
  Ob (([] : List ByteArray).length = (0 : Nat)) ∧ Ob (S = S) ∧ Ob (c = c) ∧ True) = _) ?_
 exact ⟨⟨by omega⟩, ⟨by omega⟩, ⟨trivial⟩, ⟨rfl⟩, ⟨rfl⟩, ⟨rfl⟩, ⟨rfl⟩, ⟨rfl⟩, ⟨rfl⟩, ⟨rfl⟩, ⟨rfl⟩, ⟨rfl⟩, ⟨rfl⟩, ⟨rfl⟩, trivial⟩
theorem pA_vc (y : Value) (i n : Int) : pcF 0 fcA ⟨[(6, .w (.c (.d (.v y)))), (17, vi .i64 i), (18, vi .i64 n)], [], 0⟩ fun st' => Le 0 st' ⟨[(8, vi .i64 n), (6, .w (.c (.d (.v y))))], [], 0⟩ := by
 refine Eq.mp (by kernel_rfl : (Ob (n = n) ∧ Ob (y = y) ∧ True) = _) ?_
 exact ⟨⟨rfl⟩, ⟨rfl⟩, trivial⟩
theorem pY_vc (c : List (List Int)) (S T : List ByteArray) (r : List Int) (n : Int) (hn : -9223372036854775808 ≤ n ∧ n ≤ 9223372036854775807) (hT : T.length ≤ 1000000) : pcF 4 fcY (stY c S r T n) fun st' => Le 4 st' ⟨[], hpP c S r (T ++ [jcl n]), 5⟩ := by
 have hv : strconv_Itoa n = some (jcl n) := by unfold strconv_Itoa; rw [if_pos hn]; rfl
 refine Eq.mp (by kernel_rfl : (Ob (ok (strconv_Itoa n)) ∧
  Ob ((T.length + [val (strconv_Itoa n)].length) * (16 : Nat) ≤ (140737488355328 : Nat) ∧ T.length + [val (strconv_Itoa n)].length ≤ (9223372036854775807 : Nat)) ∧
  Ob (r.getD (0 : Nat) (0 : Int) = r.getD (0 : Nat) (0 : Int)) ∧ Ob (r.getD (1 : Nat) (0 : Int) = r.getD (1 : Nat) (0 : Int)) ∧ Ob (r.getD (2 : Nat) (0 : Int) = r.getD (2 : Nat) (0 : Int)) ∧
  Ob (r.getD (3 : Nat) (0 : Int) = r.getD (3 : Nat) (0 : Int)) ∧ Ob (r.getD (4 : Nat) (0 : Int) = r.getD (4 : Nat) (0 : Int)) ∧
  Ob (T ++ [val (strconv_Itoa n)] = T ++ [jcl n]) ∧ Ob (S = S) ∧ Ob (c = c) ∧ True) = _) ?_
 have h0 : Ob (ok (strconv_Itoa n)) := ⟨by rw [hv]; rfl⟩
 have h1 : Ob (T ++ [val (strconv_Itoa n)] = T ++ [jcl n]) := ⟨by rw [hv]; rfl⟩
 exact ⟨h0, ⟨by simp only [List.length_cons, List.length_nil]; omega⟩, ⟨rfl⟩, ⟨rfl⟩, ⟨rfl⟩, ⟨rfl⟩, ⟨rfl⟩, h1, ⟨rfl⟩, ⟨rfl⟩, trivial⟩
theorem p9_vc (c : List (List Int)) (k : Nat) (S : List ByteArray) (r : List Int) (hr : jcu r = true) (hS : S.length ≤ 1000000) : pcF 1 fcR9 (stQ c k S r (jbk r 5)) fun st' => Le 1 st' (stO c k (S ++ [jb2 r])) := by
 have hv := jrN hr
 refine Eq.mp (by kernel_rfl : (Ob (ok (strings_Join (jbk r 5) { data := #[(32 : UInt8)] })) ∧
  Ob ((S.length + [val (strings_Join (jbk r 5) { data := #[(32 : UInt8)] })].length) * (16 : Nat) ≤ (140737488355328 : Nat) ∧
   S.length + [val (strings_Join (jbk r 5) { data := #[(32 : UInt8)] })].length ≤ (9223372036854775807 : Nat)) ∧
  Ob ((↑k : Int) = (↑k : Int)) ∧ Ob ((↑c.length : Int) = (↑c.length : Int)) ∧
  Ob (S ++ [val (strings_Join (jbk r 5) { data := #[(32 : UInt8)] })] = S ++ [jb2 r]) ∧ Ob (c = c) ∧ True) = _) ?_
 have h0 : Ob (ok (strings_Join (jbk r 5) { data := #[(32 : UInt8)] })) := ⟨by rw [hv]; rfl⟩
 have h1 : Ob (S ++ [val (strings_Join (jbk r 5) { data := #[(32 : UInt8)] })] = S ++ [jb2 r]) := ⟨by rw [hv]; rfl⟩
 exact ⟨h0, ⟨by simp only [List.length_cons, List.length_nil]; omega⟩, ⟨rfl⟩, ⟨rfl⟩, h1, ⟨rfl⟩, trivial⟩
theorem jrP (c : List (List Int)) (k : Nat) (S : List ByteArray) (hk : k < 1000001) : pcF 1 jqZ (stO c k S) fun st' => Le 1 st' (stO c (k + 1) S) := by
 refine Eq.mp (by kernel_rfl : (Ob (IntKind.i64.wrap ((↑k : Int) + (1 : Int)) = (↑(k + (1 : Nat)) : Int)) ∧ Ob ((↑c.length : Int) = (↑c.length : Int)) ∧ Ob (S = S) ∧ Ob (c = c) ∧ True) = _) ?_
 exact ⟨⟨by rw [IntWalk.i64_in _ (by omega)]; omega⟩, ⟨rfl⟩, ⟨rfl⟩, ⟨rfl⟩, trivial⟩
theorem jrQ (c : List (List Int)) (k : Nat) (hl : c.length ≤ 1000000) (h : ∀ r ∈ c, jcu r = true) : pcF 1 jq0 ⟨(12, vb false) :: (stO c k (jaU c c.length)).tm, (stO c k (jaU c c.length)).hp, 2⟩ fun st' => Le 1 st' ⟨[(2, .w (.c (.d (.s (jdk c)))))], [], 2⟩ := by
 have hv := jrO hl h
 refine Eq.mp (by kernel_rfl : (Ob (ok (strings_Join (jaU c c.length) { data := #[(59 : UInt8)] })) ∧ Ob (val (strings_Join (jaU c c.length) { data := #[(59 : UInt8)] }) = jdk c) ∧ True) = _) ?_
 have h0 : Ob (ok (strings_Join (jaU c c.length) { data := #[(59 : UInt8)] })) := ⟨by rw [hv]; rfl⟩
 have h1 : Ob (val (strings_Join (jaU c c.length) { data := #[(59 : UInt8)] }) = jdk c) := ⟨by rw [hv]; rfl⟩
 exact ⟨h0, h1, trivial⟩
end Go.Sh
end

section
namespace Go.Sh
open Go Go.Proofs Go.RowKit Go.Sx
open Go.Sx06 (jgx prs jgw jeE)
def jfI (W : World) (b k : Nat) : Prop := ∃ off n cap, W.cell? ⟨b, 0, none⟩ = some (.slice (some ⟨k, off, none⟩) n cap)
structure KpS (b n1 : Nat) (A C : World) : Prop where
 size : A.heap.size ≤ C.heap.size
 same : ∀ k o, n1 ≤ k → A.heap[k]? = some o → o.isCells = true → ¬ jfI A b k → C.heap[k]? = some o
 sl : ∀ k, jfI C b k → jfI A b k ∨ A.heap.size ≤ k
theorem KpS.trans {b n1 : Nat} {A B C : World} (h : KpS b n1 A B) (k : KpS b n1 B C) : KpS b n1 A C :=
 ⟨Nat.le_trans h.size k.size, fun x o hx ho hc hn => k.same x o hx (h.same x o hx ho hc hn) hc (fun hs => (h.sl x hs).elim hn fun hl => by
   have := (Array.getElem?_eq_some_iff.1 ho).1
   omega),
  fun x hx => (k.sl x hx).elim (h.sl x) fun hl => .inr (Nat.le_trans h.size hl)⟩
theorem KpS.put {b n1 : Nat} {W : World} {l : Nat} {o o' : Obj} (hb : b < n1) (hl : n1 ≤ l) (h : W.heap[l]? = some o) (hc : o.isCells = false) : KpS b n1 W (W.putObj l o') := by
 refine ⟨by simp, fun k u _ hk hu _ => ?_, fun k hk => .inl ?_⟩
 ·have hne : l ≠ k := fun e => by subst e; rw [h] at hk; cases hk; rw [hc] at hu; cases hu
  exact (World.putObj_heap_other (fun e => hne e.symm)).trans hk
 ·obtain ⟨off, n, cap, hs⟩ := hk
  refine ⟨off, n, cap, ?_⟩
  have hbk : (W.putObj l o').heap[b]? = W.heap[b]? := World.putObj_heap_other (by omega)
  rw [← hs]
  exact (World.cell?_of_block (w := W) (a := ⟨b, 0, none⟩) hbk).symm
structure FarS (b n1 : Nat) (W : World) (k : Nat) : Prop where
 ge : n1 ≤ k
 lt : k < W.heap.size
 bl : b < W.heap.size
 no : ¬ jfI W b k
theorem FarS.kept {b n1 : Nat} {A C : World} {k : Nat} (h : KpS b n1 A C) (hf : FarS b n1 A k) : FarS b n1 C k ∧ ∀ o, A.heap[k]? = some o → o.isCells = true → C.heap[k]? = some o := by
 refine ⟨⟨hf.ge, Nat.lt_of_lt_of_le hf.lt h.size, Nat.lt_of_lt_of_le hf.bl h.size, fun hs => ?_⟩, fun o ho hc => h.same k o hf.ge ho hc hf.no⟩
 rcases h.sl k hs with h1 | h1
 ·exact hf.no h1
 ·have := hf.lt
  omega
theorem jgM {b k : Nat} {A B : World} (h : A.grownBy B none) (hb : b < A.heap.size) (hs : jfI B b k) : jfI A b k := by
 obtain ⟨off, n, cap, hs⟩ := hs
 refine ⟨off, n, cap, ?_⟩
 rw [← hs]
 exact (World.cell?_of_block (w := A) (a := ⟨b, 0, none⟩) (h.block b hb (by simp))).symm
theorem FarS.grown {b n1 : Nat} {A B : World} {k : Nat} (h : A.grownBy B none) (hf : FarS b n1 A k) : FarS b n1 B k :=
 ⟨hf.ge, Nat.lt_of_lt_of_le hf.lt h.size, Nat.lt_of_lt_of_le hf.bl h.size, fun hs => hf.no (jgM h hf.bl hs)⟩
theorem jrp {ρ : Env} {B : Bd} {w w' : World} {h : Nat} {c : Cont} (hb : Bel B w w') (ho : (O.ext c).ok ρ B w h) : (O.ext c).ok ρ B w' h := by
 obtain ⟨⟨a, cap, h1, h2, h3⟩, h4⟩ := ho
 refine ⟨⟨a, cap, h1, h2, fun hn => ?_⟩, h4⟩
 obtain ⟨b, off, rfl, hx⟩ := h3 hn
 exact ⟨b, off, rfl, fun j x hj => (hb.cell (p := ⟨b, off + j, none⟩) (h4 ⟨b, off, none⟩ _ _ h1 hn)).trans (hx j x hj)⟩
structure FI (ρ : Env) (B : Bd) (c : List (List Int)) (S : List ByteArray) (r : List Int) (w0 : World) (pre : List (Fin 5)) (W : World) : Prop where
 env : ∃ ρ', jaf 4 ρ ρ' ∧ HRel ρ' B (hpP c S r (pre.map fun x => jcl (r.getD x.1 0))) 5 W
 bel : Bel B w0 W
 old : Old B W
section
variable {ρ : Env} {B : Bd} {c : List (List Int)} {S T : List ByteArray} {r : List Int} {w0 : World}
theorem jd2 {h : Nat} {o : O} (hf : find (hpP c S r T) h = some o) :
  (h = 2 ∧ o = boxR r) ∨ (h = 3 ∧ o = .box 55 [.o 4]) ∨ (h = 4 ∧ o = .row 9 (.strs T)) ∨ (h = 1 ∧ o = .row 9 (.strs S)) ∨ (h = 0 ∧ o = .ext (.recs 5 c)) := by
 simp only [hpP, find] at hf
 split at hf
 ·rename_i e; cases hf; exact .inl ⟨e.symm, rfl⟩
 split at hf
 ·rename_i e; cases hf; exact .inr (.inl ⟨e.symm, rfl⟩)
 split at hf
 ·rename_i e; cases hf; exact .inr (.inr (.inl ⟨e.symm, rfl⟩))
 split at hf
 ·rename_i e; cases hf; exact .inr (.inr (.inr (.inl ⟨e.symm, rfl⟩)))
 split at hf
 ·rename_i e; cases hf; exact .inr (.inr (.inr (.inr ⟨e.symm, rfl⟩)))
 ·cases hf
theorem jkF {h : Nat} {o : O} (hf : find (hpP c S r T) h = some o) : rngO o = true := by
 rcases jd2 hf with ⟨_, rfl⟩ | ⟨_, rfl⟩ | ⟨_, rfl⟩ | ⟨_, rfl⟩ | ⟨_, rfl⟩ <;> rfl
theorem FI.own (h0 : Old B w0) : OwnFrom w0.heap.size (FI ρ B c S r w0) := by
 intro pre W W' row hs hg hr
 have hnB : ∀ k, B k → row ≠ some k := fun k hk e => by
  have h1 := (hr k e).1
  have h2 := h0 k hk
  omega
 obtain ⟨ρ', ha, hh⟩ := hs.env
 exact ⟨⟨ρ', ha, hh.grown hg hs.old (fun r e => ⟨fun hb => hnB r hb e, (hr r e).2⟩) (fun h o hf => jkF hf)⟩, hs.bel.trans ⟨hg.os, hg.tape, hg.output, hg.size, fun k hk => hg.block k (hs.old k hk) (fun e => hnB k hk e.symm)⟩, fun k hk => Nat.lt_of_lt_of_le (hs.old k hk) hg.size⟩
theorem FI.cell {pre : List (Fin 5)} {W : World} {ρ' : Env} {b : Nat} (hh : HRel ρ' B (hpP c S r T) 5 W) (hb : ρ' 3 = .pointer (some ⟨b, 0, none⟩)) : W.heap[b]? = some (.cells #[ρ' 4] 55 (0, 0)) := by
 obtain ⟨_, _, k, h1, _, h3⟩ := hh.ok 3 _ rfl
 rw [hb] at h1
 cases h1
 exact h3
theorem jrR {W : World} {k : Nat} {v : Value} {t : Nat} {f : Nat × Nat} (h : W.heap[k]? = some (.cells #[v] t f)) : W.cell? ⟨k, 0, none⟩ = some v := by
 simp [World.cell?, h]
theorem jgN {W : World} {ρ' : Env} {b k : Nat} (hh : HRel ρ' B (hpP c S r T) 5 W) (hb : ρ' 3 = .pointer (some ⟨b, 0, none⟩)) : jfI W b k ↔ (ρ' 4).ownBlock = some k := by
 have hc := jrR (FI.cell (pre := []) hh hb)
 unfold jfI
 rw [hc]
 constructor
 ·rintro ⟨off, n, cap, h⟩
  rw [Option.some.inj h]
  rfl
 ·intro h
  have hrow := jaZ (hh.ok 4 _ rfl).2.2 rfl
  obtain ⟨a, cap, h1, _, _⟩ := hrow
  rw [h1] at h ⊢
  cases a with
  | none => cases h
  | some ad =>
   have h5 := (hh.ok 4 _ rfl).2.2
   obtain ⟨blk, off, base⟩ := ad
   rcases h5.1.2 with ⟨h6, _⟩ | ⟨g, cap', cur, h6, _⟩
   ·rw [h1] at h6; cases h6
   ·rw [h1] at h6
    cases h6
    cases h
    exact ⟨_, _, _, rfl⟩
theorem jjL {ρ' : Env} (hh : HRel ρ B (hpP c S r []) 5 w0) (ha : jaf 4 ρ ρ') {h k : Nat} {o : O} (hf : find (hpP c S r T) h = some o) (hk : o.blk (ρ' h) = some k) (h4 : h ≠ 4) : k < w0.heap.size := by
 rcases jd2 hf with ⟨rfl, rfl⟩ | ⟨rfl, rfl⟩ | ⟨rfl, rfl⟩ | ⟨rfl, rfl⟩ | ⟨rfl, rfl⟩
 ·rw [ha 2 (by decide)] at hk; exact (O.blk_lt (hh.ok 2 _ rfl).2.2 hk).1
 ·rw [ha 3 (by decide)] at hk; exact (O.blk_lt (hh.ok 3 _ rfl).2.2 hk).1
 ·exact absurd rfl h4
 ·rw [ha 1 (by decide)] at hk; exact (O.blk_lt (hh.ok 1 _ rfl).2.2 hk).1
 ·cases hk
set_option maxHeartbeats 2000000 in
theorem jqA {n l b : Nat} (h0 : HRel ρ B (hpP c S r []) 5 w0) (hb : ρ 3 = .pointer (some ⟨b, 0, none⟩)) (hr6 : jcu r = true) {pre : List (Fin 5)} {x : Fin 5} (hpre : pre.length < 5) {a : Act} {W : World} (hI : FI ρ B c S r w0 pre W)
  (hs : a.tmps.size = 32) (hd : a.defers = []) (h8 : a.tmps.getD 8 undef = .int .i64 (r.getD x.1 0)) (h6 : a.tmps.getD 6 undef = V.val ρ (.w (.c (.p 3 (0 : Nat) 1 (0 : Nat))))) :
  fcY.wpIn (Fence.wide.inRound l) n Tryz.prog (fun e a' W' => e = .normal ∧ KeepsOthers W W' ∧ KpS b w0.heap.size W W' ∧ FI ρ B c S r w0 (pre ++ [x]) W') a W := by
 obtain ⟨ρ', ha, hh⟩ := hI.env
 have hb' : ρ' 3 = .pointer (some ⟨b, 0, none⟩) := (ha 3 (by decide)).trans hb
 generalize hT : (pre.map fun x => jcl (r.getD x.1 0)) = T at *
 have hTl : T.length = pre.length := by rw [← hT, List.length_map]
 obtain ⟨B2, hB2d⟩ : ∃ B2 : Bd, B2 = fun k => k < W.heap.size ∧ ∀ h o, find (hpP c S r T) h = some o → o.blk (ρ' h) ≠ some k := ⟨_, rfl⟩
 have hB2i : ∀ k, B2 k ↔ k < W.heap.size ∧ ∀ h o, find (hpP c S r T) h = some o → o.blk (ρ' h) ≠ some k := fun k => by rw [hB2d]
 have hB2 : ∀ k, B k → B2 k := fun k hk => (hB2i k).2 ⟨hI.old k hk, fun h o hf e => (O.blk_lt (hh.ok h o hf).2.2 e).2 hk⟩
 have hh1 := hh.moreB hB2 (fun h o k hf hk hb2 => ((hB2i k).1 hb2).2 h o hf hk)
 have hrel : Rel ρ' B2 32 4 (stY c S r T (r.getD x.1 0)) a W := by
  refine ⟨fun t v hv => ?_, hs, hd, hh1, fun k hk => ((hB2i k).1 hk).1, (show 4 ≤ 5 by decide)⟩
  simp only [stY, jaX] at hv
  split at hv
  ·rename_i e; subst e; cases hv
   exact ⟨trivial, h8⟩
  split at hv
  ·rename_i e; subst e; cases hv
   refine ⟨show 3 < 5 by decide, ?_⟩
   rw [h6]
   show Value.pointer (some ⟨(base (ρ 3)).block, (base (ρ 3)).off + 0, none⟩) = Value.pointer (some ⟨(base (ρ' 3)).block, (base (ρ' 3)).off + 0, none⟩)
   rw [ha 3 (by decide)]
  ·cases hv
 refine wpIn_mono (jcD mixed jcJ fcY 0 [] _ _ ρ' a W (by kernel_rfl) (pY_vc c S T r (r.getD x.1 0) (jd1 hr6 x.2) (by omega)) hrel (jaf.refl _ _) (Bel.refl _ _)) ?_
 rintro e a' W' ⟨ex, ρ1, st', rfl, hk, hr', hag', hbl'⟩
 cases ex with
 | normal =>
  obtain ⟨ρ2, hr2, hag2⟩ := Le.rel hk hr'
  have hag : ∀ h, h < 4 → ρ2 h = ρ' h := fun h hh => (hag2 h hh).trans (hag' h hh)
  have hb2 : ρ2 3 = .pointer (some ⟨b, 0, none⟩) := (hag 3 (by decide)).trans hb'
  have hbB : Bel B W W' := ⟨hbl'.os, hbl'.tape, hbl'.output, hbl'.size, fun k hk => hbl'.block k (hB2 k hk)⟩
  have hl := hr2.heap.lessB (B := B) hB2 (hh.glob.bel hbB) (fun h o hf he => by
   rcases jd2 hf with ⟨rfl, rfl⟩ | ⟨rfl, rfl⟩ | ⟨rfl, rfl⟩ | ⟨rfl, rfl⟩ | ⟨rfl, rfl⟩
   ·cases he
   ·cases he
   ·cases he
   ·cases he
   ·have := jrp hbB (hh.ok 0 _ rfl).2.2
    unfold O.ok at this ⊢
    rw [hag 0 (by decide)]
    exact this)
  have hl' : HRel ρ2 B (hpP c S r (T ++ [jcl (r.getD x.1 0)])) 5 W' := hl
  refine ⟨rfl, ⟨hbl'.size, fun k o hk ho => (hbl'.block k ((hB2i k).2 ⟨(Array.getElem?_eq_some_iff.1 hk).1, fun h ob hf e => ?_⟩)).trans hk⟩, ⟨hbl'.size, fun k o hk ho hc hn => (hbl'.block k ((hB2i k).2 ⟨(Array.getElem?_eq_some_iff.1 ho).1, fun h ob hf e => ?_⟩)).trans ho, fun k hk => ?_⟩, ⟨⟨ρ2, fun h hh => (hag h hh).trans (ha h hh), ?_⟩, hI.bel.trans hbB, fun k hk => Nat.lt_of_lt_of_le (hI.old k hk) hbl'.size⟩⟩
  ·obtain ⟨cc, t, f, hc⟩ := jhQ (hh.ok h ob hf).2.2 (jkF hf) e
   rw [hc] at hk
   cases hk
   cases ho
  ·by_cases h4 : h = 4
   ·subst h4
    refine hn ((jgN hh hb').2 ?_)
    rcases jd2 hf with ⟨e1, _⟩ | ⟨e1, _⟩ | ⟨_, rfl⟩ | ⟨e1, _⟩ | ⟨e1, _⟩
    ·cases e1
    ·cases e1
    ·exact e
    ·cases e1
    ·cases e1
   ·have := jjL h0 ha hf e h4
    omega
  ·have h4 := (jgN hl' hb2).1 hk
   by_cases hlt : k < W.heap.size
   ·left
    refine Classical.byContradiction fun hno => ?_
    refine (O.blk_lt (hr2.heap.ok 4 _ rfl).2.2 h4).2 ((hB2i k).2 ⟨hlt, fun h ob hf e => ?_⟩)
    by_cases e4 : h = 4
    ·subst e4
     refine hno ((jgN hh hb').2 ?_)
     rcases jd2 hf with ⟨e1, _⟩ | ⟨e1, _⟩ | ⟨_, rfl⟩ | ⟨e1, _⟩ | ⟨e1, _⟩
     ·cases e1
     ·cases e1
     ·exact e
     ·cases e1
     ·cases e1
    ·have hap : ∀ oo, find (hpP c S r (T ++ [jcl (r.getD x.1 0)])) h = some oo → oo.blk (ρ2 h) = some k → False := fun oo hfo hbo => hl'.apart h oo 4 _ k hfo rfl e4 hbo h4
     rcases jd2 hf with ⟨rfl, rfl⟩ | ⟨rfl, rfl⟩ | ⟨rfl, rfl⟩ | ⟨rfl, rfl⟩ | ⟨rfl, rfl⟩
     ·exact hap _ rfl (by rw [hag 2 (by decide)]; exact e)
     ·exact hap _ rfl (by rw [hag 3 (by decide)]; exact e)
     ·exact e4 rfl
     ·exact hap _ rfl (by rw [hag 1 (by decide)]; exact e)
     ·cases e
   ·exact .inr (Nat.le_of_not_lt hlt)
  ·rw [List.map_append, hT]
   exact hl'
 | exit j => exact hk.elim
 | ret => exact hk.elim
end
end Go.Sh
end

section
namespace Go.Sh
open Go Go.Proofs Go.RowKit Go.Sx
open Go.Sx06 (jgx prs jgw jeE)
def cz (r : List Int) : List Int := [r.getD 0 0, r.getD 1 0, r.getD 2 0, r.getD 3 0, r.getD 4 0]
theorem jow (r : List Int) {j : Nat} (hj : j < 5) : (cz r).getD j 0 = r.getD j 0 := by
 match j, hj with
 | 0, _ => rfl
 | 1, _ => rfl
 | 2, _ => rfl
 | 3, _ => rfl
 | 4, _ => rfl
def czP (r : List Int) (j : Fin 5) : Nat × Int := (j.1, r.getD j.1 0)
theorem jpr {r : List Int} {xs : List (Fin 5)} (h : xs.map (czP r) = prs (cz r) 5) : (xs.map fun x => jcl (r.getD x.1 0)) = jbk r 5 := by
 have h1 : ((xs.map (czP r)).map fun p => jcl p.2) = (prs (cz r) 5).map fun p => jcl p.2 := by rw [h]
 rw [List.map_map] at h1
 rw [show (fun x : Fin 5 => jcl (r.getD x.1 0)) = (fun p : Nat × Int => jcl p.2) ∘ czP r from rfl, h1]
 simp only [prs, jbk, List.map_map]
 refine List.map_congr_left fun j hj => ?_
 show jcl ((cz r).getD j 0) = _
 rw [jow r (List.mem_range.1 hj)]
section
variable {ρ : Env} {B : Bd} {c : List (List Int)} {S T : List ByteArray} {r : List Int} {w0 : World}
theorem jox (n b Bs : Nat) (r : List Int) (w0 : World) (hb : b < w0.heap.size) (hBs : w0.heap[Bs]? = some (.cells #[.int .i64 (r.getD 0 0), .int .i64 (r.getD 1 0), .int .i64 (r.getD 2 0), .int .i64 (r.getD 3 0), .int .i64 (r.getD 4 0)] 42 (0, 0)))
  (hsl : ∀ k, jfI w0 b k → k < w0.heap.size) :
  SeqStopsK Fence.wide n Tryz.prog 43 #[.pointer (some ⟨Bs, 0, none⟩)] (fun x : Fin 5 => #[.int .i64 (x.1 : Int), .int .i64 (r.getD x.1 0)]) (KpS b w0.heap.size) (fun xs => xs.map (czP r) = prs (cz r) 5) (fun _ => True) 5 w0 := by
 intro l J Jx W hW hJ hJx hY h0
 have key := jgx n l Bs (KpS b w0.heap.size) (FarS b w0.heap.size) FarS.kept FarS.grown (r.getD 0 0) (r.getD 1 0) (r.getD 2 0) (r.getD 3 0) (r.getD 4 0)
  (fun pre W => ∃ ys : List (Fin 5), pre = ys.map (czP r) ∧ J ys W) (fun pre W => ∃ ys : List (Fin 5), pre = ys.map (czP r) ∧ Jx ys W)
  (fun pre x W1 hp hl hx => by
   obtain ⟨ys, rfl, hp⟩ := hp
   rw [List.length_map] at hl hx
   have hx2 : x = czP r ⟨ys.length, hl⟩ := by rw [hx]; exact Prod.ext rfl (jow r hl)
   subst hx2
   have hy := hY ys ⟨ys.length, hl⟩ W1 hp hl
   refine hy.mono ?_
   rintro e W' (⟨rfl, h1, h2⟩ | ⟨rfl, h1⟩)
   ·exact .inl ⟨rfl, ⟨ys ++ [⟨ys.length, hl⟩], by simp, h1⟩, h2⟩
   ·exact .inr ⟨rfl, ⟨ys ++ [⟨ys.length, hl⟩], by simp, h1⟩⟩)
  W (fun W1 g hg hge hlt => ⟨Nat.le_trans hW.size hge, hlt, Nat.lt_of_lt_of_le (Nat.lt_of_lt_of_le hb hW.size) hg.size, fun hs => by
   have h1 := jgM hg (Nat.lt_of_lt_of_le hb hW.size) hs
   obtain ⟨off, m, cap, h2⟩ := h1
   have h3 : jfI w0 b g := ⟨off, m, cap, by rw [← h2]; exact (World.cell?_of_block (w := w0) (a := ⟨b, 0, none⟩) (hW.block b hb)).symm⟩
   have := hsl g h3
   have := hW.size
   omega⟩)
  (fun pre A C row ⟨ys, e, hs⟩ hg hr => ⟨ys, e, hJ ys A C row hs hg hr⟩)
  ((hW.block Bs (Array.getElem?_eq_some_iff.1 hBs).1).trans hBs) ⟨[], rfl, h0⟩
 refine key.mono ?_
 rintro e W' ⟨hv, ⟨ys, rfl, zs, h1, h2⟩ | ⟨pre, _, zs, h1, h2⟩⟩
 ·exact ⟨hv, .inl ⟨zs, h1.symm, h2⟩⟩
 ·exact ⟨hv, .inr ⟨zs, trivial, h2⟩⟩
def FA (y : Value) (r : List Int) (x : Fin 5) (a : Act) (_ : World) : Prop :=
 a.tmps.size = 32 ∧ a.defers = [] ∧ a.tmps.getD 6 undef = y ∧ a.tmps.getD 8 undef = .int .i64 (r.getD x.1 0)
theorem tmsF {a : Act} {y : Value} {i n : Int} (hs : a.tmps.size = 32) (hy : a.tmps.getD 6 undef = y) {t : Nat} {v : V} {ρ : Env} (hv : jaX [(6, V.w (.c (.d (.v y)))), (17, vi .i64 i), (18, vi .i64 n)] t = some v) :
  V.lt 0 v ∧ (((#[17, 18] : Array Tmp).zip #[.int .i64 i, .int .i64 n]).foldl (fun t (p, v) => t.setIfInBounds p v) a.tmps).getD t undef = v.val ρ := by
 have e : ((#[17, 18] : Array Tmp).zip #[Value.int .i64 i, .int .i64 n]).foldl (fun t (p, v) => t.setIfInBounds p v) a.tmps = (a.tmps.setIfInBounds 17 (.int .i64 i)).setIfInBounds 18 (.int .i64 n) := by simp
 rw [e]
 simp only [jaX] at hv
 split at hv
 ·rename_i e; subst e; cases hv
  refine ⟨trivial, ?_⟩
  rw [← hy]
  simp [Array.getD, hs, V.val, W.val, C.val, D.val, Array.getElem_setIfInBounds]
 split at hv
 ·rename_i e; subst e; cases hv
  exact ⟨trivial, by simp [Array.getD, hs, V.val, W.val, C.val, D.val, vi, Array.getElem_setIfInBounds]⟩
 split at hv
 ·rename_i e; subst e; cases hv
  exact ⟨trivial, by simp [Array.getD, hs, V.val, W.val, C.val, D.val, vi, Array.getElem_setIfInBounds]⟩
 ·cases hv
set_option maxHeartbeats 2000000 in
theorem jps {n k : Nat} {ds : List Deferred} {Q : Exit → Act → World → Prop} {a : Act} {w : World} (h1 : 1 ≤ n) (hr6 : jcu r = true) (hr : RelD ds ρ B 32 1 (stP c k S r) a w)
  (hdone : ∀ (D : Nat) (W : World) (ρ' : Env), w.heap.size ≤ D → W.heap[D]? = some (.deferred (some [])) → Bel B w W → Old B W → jaf 4 ρ ρ' → HRel ρ' B (hpP c S r (jbk r 5)) 5 W → Q .normal { a with defers := { target := .collected D, args := #[] } :: a.defers } W) :
  (Code.rangeFunc (.tmp 16) #[17, 18] fcA fcY).wpIn Fence.wide n Tryz.prog Q a w := by
 obtain ⟨_, _, kb, hkb, _, hkc⟩ := hr.heap.ok 2 _ rfl
 obtain ⟨_, _, b, hb, _, hbc⟩ := hr.heap.ok 3 _ rfl
 have hI0 : FI ρ B c S r w [] w := ⟨⟨ρ, jaf.refl _ _, hr.heap⟩, Bel.refl _ _, hr.le⟩
 have hblt : b < w.heap.size := (Array.getElem?_eq_some_iff.1 hbc).1
 have hg : a.eval (.tmp 16) = .func (.func 43) #[] #[.pointer (some ⟨kb, 0, none⟩)] := by
  have := (hr.tm 16 _ rfl).2
  show a.tmps.getD 16 undef = _
  rw [this]
  show Value.func (.func 43) #[] #[ρ 2] = _
  rw [hkb]
 have hy : a.tmps.getD 6 undef = V.val ρ (.w (.c (.p 3 (0 : Nat) 1 (0 : Nat)))) := (hr.tm 6 _ rfl).2
 refine wpIn_rangeFunc_ownH (F := Fence.wide) (n := n) rfl h1 (gf := 43) (lb := #[.pointer (some ⟨kb, 0, none⟩)]) hg trivial (enters_of Tryz.func43 (by kernel_rfl) rfl)
  (jox (n - 1) b kb r w hblt hkc (fun k hk => (O.blk_lt (hr.heap.ok 4 _ rfl).2.2 ((jgN hr.heap hb).1 hk)).1)) (fun h k => h.trans k) (fun W l o o' hl ho hc _ => KpS.put hblt hl ho hc) (Below.refl _ _) (fun _ => rfl)
  (FI ρ B c S r w) (fun _ _ _ => False) (FI.own hr.le) (fun _ _ _ _ _ h _ _ => h.elim) hI0 (FA (V.val ρ (.w (.c (.p 3 (0 : Nat) 1 (0 : Nat))))) r) (fun x a' _ _ _ _ h _ _ => h) ?assign ?body ?done ?stop
 case assign =>
  intro l pre x W K hI hK
  obtain ⟨ρ', hag0, hh0⟩ := hI.env
  have hbW : b < W.heap.size := Nat.lt_of_lt_of_le hblt hI.bel.size
  have hrel : Rel ρ (fun k => k < W.heap.size) 32 0 ⟨[(6, .w (.c (.d (.v (V.val ρ (.w (.c (.p 3 (0 : Nat) 1 (0 : Nat))))))))), (17, vi .i64 (x.1 : Int)), (18, vi .i64 (r.getD x.1 0))], [], 0⟩ { tmps := ((#[17, 18] : Array Tmp).zip #[.int .i64 (x.1 : Int), .int .i64 (r.getD x.1 0)]).foldl (fun t (p, v) => t.setIfInBounds p v) a.tmps, defers := [] } W := by
   refine ⟨fun t v hv => tmsF hr.size hy hv, ?_, rfl, ⟨fun h o hf => (by cases hf), fun h o h' o' k hf => (by cases hf), jeZ hh0.glob hI.old⟩, fun k hk => hk, Nat.le_refl _⟩
   have : ((#[17, 18] : Array Tmp).zip #[Value.int .i64 (x.1 : Int), .int .i64 (r.getD x.1 0)]).foldl (fun t (p, v) => t.setIfInBounds p v) a.tmps = (a.tmps.setIfInBounds 17 (.int .i64 (x.1 : Int))).setIfInBounds 18 (.int .i64 (r.getD x.1 0)) := by simp
   show Array.size (Array.foldl _ _ _) = _
   rw [this]
   simp [hr.size]
  refine wpIn_mono (jcD mixed jcJ fcA 0 [] _ _ ρ _ W (by kernel_rfl) (pA_vc _ _ _) hrel (jaf.refl _ _) (Bel.refl _ _)) ?_
  rintro e a' W' ⟨ex, ρ1, st', rfl, hk, hr', hag', hbl'⟩
  cases ex with
  | normal =>
   obtain ⟨ρ2, hr2, hag2⟩ := Le.rel hk hr'
   have hgr : W.grownBy W' none := ⟨hbl'.os, hbl'.tape, hbl'.output, hbl'.size, fun k hk _ => hbl'.block k hk⟩
   have hI' : FI ρ B c S r w pre W' := FI.own hr.le pre W W' none hI hgr (fun r e => by cases e)
   exact hK a' W' ⟨hbl'.size, fun k o _ hk ho => (hbl'.block k (Array.getElem?_eq_some_iff.1 hk).1).trans hk⟩
    ⟨hbl'.size, fun k o _ ho _ _ => (hbl'.block k (Array.getElem?_eq_some_iff.1 ho).1).trans ho, fun k hk => .inl (jgM hgr hbW hk)⟩ hI' ⟨hr2.size, hr2.defers, (hr2.tm 6 _ rfl).2, (hr2.tm 8 _ rfl).2⟩
  | exit j => exact hk.elim
  | ret => exact hk.elim
 case body =>
  intro l pre x a' W hl _ hI hA hlt
  obtain ⟨h2, h3, h4, h5⟩ := hA
  refine wpIn_mono (jqA hr.heap hb hr6 hlt hI h2 h3 h5 h4) ?_
  rintro e a2 W' ⟨rfl, hkf, hkp, hI'⟩
  exact ⟨hkf.from _, hkp, hI'⟩
 case done =>
  intro D xs W hD hS hI hd
  obtain ⟨ρ', hag, hh⟩ := hI.env
  rw [jpr hS] at hh
  exact hdone D W ρ' hD hd hI.bel hI.old hag hh
 case stop =>
  intro D c pre W _ _ h
  exact h.elim
end
end Go.Sh
end

section
namespace Go.Sh
open Go Go.Proofs Go.RowKit Go.Sx
def mk1 (D : Nat) : Deferred := { target := .collected D, args := #[] }
def jie (B : Bd) (l : List Nat) (w : World) : Prop := l.Nodup ∧ ∀ D ∈ l, w.heap[D]? = some (.deferred (some [])) ∧ ¬ B D
def MB (B : Bd) (l : List Nat) : Bd := fun x => B x ∨ x ∈ l
theorem jie.bel {B : Bd} {l : List Nat} {w w' : World} (h : jie B l w) (hb : Bel (MB B l) w w') : jie B l w' :=
 ⟨h.1, fun D hD => ⟨(hb.block D (.inr hD)).trans (h.2 D hD).1, (h.2 D hD).2⟩⟩
theorem jkc {B : Bd} {l : List Nat} {w w' : World} (hb : Bel (MB B l) w w') : Bel B w w' := hb.mono fun k hk => .inl hk
theorem jrS {c : Code} {st st2 : St} {ds : List Deferred} {ρ : Env} {B : Bd} {a : Act} {w : World} {n0 : Nat} (hr : RelD ds ρ B 32 n0 st a w) (h : pcF n0 c st fun st' => Le n0 st' st2) :
  c.wp Tryz.prog (fun e a' w' => e = .normal ∧ Bel B w w' ∧ ∃ ρ', RelD ds ρ' B 32 n0 st2 a' w' ∧ jaf n0 ρ ρ') a w := by
 refine wp_mono (jbB jcJ (jcy mixed jcJ) c 0 [] st _ ρ a w h hr (jaf.refl _ _) (Bel.refl _ _)) ?_
 rintro e a' w' ⟨ex, ρ', st', rfl, hk, hr', hag, hbl⟩
 cases ex with
 | normal =>
  obtain ⟨ρ2, hr2, hag2⟩ := Le.rel hk hr'
  exact ⟨rfl, hbl, ρ2, hr2, fun x hx => (hag2 x hx).trans (hag x hx)⟩
 | exit j => exact hk.elim
 | ret => exact hk.elim
theorem jkd {fn : Func} {tmps : Array Value} {R : Ending → World → Prop} {I : World → Prop} {Pd : Nat → Prop} (hI : ∀ D w, Pd D → I w → w.heap[D]? = some (.deferred (some [])) → I (w.putObj D (.deferred none)))
  (hR : ∀ w, I w → ∃ v, (results fn tmps).run Tryz.prog w = .ok v w ∧ R (.returned v) w) :
  ∀ (l : List Nat) (w : World), l.Nodup → (∀ D ∈ l, w.heap[D]? = some (.deferred (some [])) ∧ Pd D) → I w → LeavesInM Fence.wide 9 Tryz.prog fn tmps R (l.map mk1) .returning w
 | [], w, _, _, h => hR w h
 | D :: l, w, hn, hm, h => by
  have hD := hm D List.mem_cons_self
  rw [List.nodup_cons] at hn
  refine ⟨by simp, .inl ⟨D, _, rfl, run_takeDeferred hD.1, jkd hI hR l _ hn.2 (fun E hE => ⟨?_, (hm E (List.mem_cons_of_mem _ hE)).2⟩) (hI D w hD.2 h hD.1)⟩⟩
  have hne : E ≠ D := fun e => hn.1 (by rw [← e]; exact hE)
  rw [World.putObj_heap_other (by first | exact hne | exact hne.symm)]
  exact (hm E (List.mem_cons_of_mem _ hE)).1
def jd3 (ρ0 : Env) (w0 : World) (st : St) (a : Act) (w : World) : Prop :=
 ∃ ρ l, RelD (l.map mk1) ρ (MB (fun k => k < w0.heap.size) l) 32 1 st a w ∧ jie (fun k => k < w0.heap.size) l w ∧ jaf 1 ρ0 ρ ∧ Bel (fun k => k < w0.heap.size) w0 w
theorem jd3.piece {ρ0 : Env} {w0 : World} {st st2 : St} {c : Code} {a : Act} {w : World} (h : jd3 ρ0 w0 st a w) (hc : pcF 1 c st fun st' => Le 1 st' st2) : c.wp Tryz.prog (fun e a' w' => e = .normal ∧ jd3 ρ0 w0 st2 a' w') a w := by
 obtain ⟨ρ, l, hr, hm, hag, hbl⟩ := h
 refine wp_mono (jrS hr hc) ?_
 rintro e a' w' ⟨rfl, hb, ρ', hr', hag'⟩
 exact ⟨rfl, ρ', l, hr', hm.bel hb, fun x hx => (hag' x hx).trans (hag x hx), hbl.trans (jkc hb)⟩
theorem jd3.t12 {ρ0 : Env} {w0 : World} {st : St} {b : Bool} {a : Act} {w : World} (h : jd3 ρ0 w0 st a w) (hg : jaX st.tm 12 = some (vb b)) : a.eval (.tmp 12) = .bool b := by
 obtain ⟨ρ, l, hr, _⟩ := h
 exact (hr.tm 12 _ hg).2
section
variable {ρ0 : Env} {w0 : World} {c : List (List Int)} {k : Nat} {a : Act} {w : World}
set_option maxHeartbeats 2000000 in
theorem jpt (hk : k < c.length) (hl : c.length ≤ 1000000) (hr6 : jcu (c.getD k []) = true) (h : jd3 ρ0 w0 ⟨(12, vb true) :: (stO c k (jaU c k)).tm, (stO c k (jaU c k)).hp, 2⟩ a w) :
  jgJ.wpIn Fence.wide 9 Tryz.prog (fun e a' w' => e = .normal ∧ jd3 ρ0 w0 (stO c k (jaU c (k + 1))) a' w') a w := by
 obtain ⟨ρ, l, hr, hm, hag, hbl⟩ := h
 refine wpIn_wide.2 (jkC jcJ (jcy mixed jcJ) (cur := 0) (gs := []) 2 jgJ _ ρ a w (by kernel_rfl) (p4_vc c k (jaU c k) hk) hr (jaf.refl _ _) (Bel.refl _ _) ?_ ?_)
 ·intro ρ1 st1 a1 w1 hk1 hr1 hag1 hbl1
  have hT : jj7 2 jgJ = .seq (.seq fcR6 (.block 2 (.rangeFunc (.tmp 16) #[17, 18] fcA fcY))) fcR9 := by kernel_rfl
  rw [hT]
  refine (wpIn_wide (n := 9)).1 (wpIn_seq (wpIn_seq (wpIn_mono (wpIn_wide.2 (jbB jcJ (jcy mixed jcJ) fcR6 0 [] st1 _ ρ1 a1 w1 hk1 hr1 (jaf.refl _ _) (Bel.refl _ _))) ?_)))
  rintro x a2 w2 ⟨ex, ρ2, st2, rfl, hle, hr2, hag2, hbl2⟩
  cases ex with
  | normal =>
   obtain ⟨ρ3, hr3, hag3⟩ := Le.rel hle hr2
   refine wpIn_block (jps (by decide) hr6 hr3 ?_)
   intro D W ρ' hD hd hb hold hag4 hh
   have hm2 : jie (fun k => k < w0.heap.size) l W := (hm.bel (hbl1.trans hbl2)).bel hb
   have hlt : ∀ x, x ∈ l → x < w2.heap.size := fun x hx => hr3.le x (.inr hx)
   have hDl : D ∉ l := fun h => by have := hlt D h; omega
   have hw02 : w0.heap.size ≤ w2.heap.size := Nat.le_trans hbl.size (Nat.le_trans hbl1.size hbl2.size)
   have hmD : jie (fun k => k < w0.heap.size) (D :: l) W := ⟨List.nodup_cons.2 ⟨hDl, hm2.1⟩, fun E hE => by
    rcases List.mem_cons.1 hE with rfl | hE
    ·exact ⟨hd, fun h => by have : E < w0.heap.size := h; omega⟩
    ·exact hm2.2 E hE⟩
   have hhD : HRel ρ' (MB (fun k => k < w0.heap.size) (D :: l)) (hpP c (jaU c k) (c.getD k []) (jbk (c.getD k []) 5)) 5 W := hh.moreB (fun x hx => hx.elim .inl fun h => .inr (List.mem_cons_of_mem _ h)) (fun h o x hf hx hb2 => by
    rcases hb2 with hb2 | hb2
    ·exact (O.blk_lt (hh.ok h o hf).2.2 hx).2 (.inl hb2)
    ·rcases List.mem_cons.1 hb2 with rfl | hb2
     ·obtain ⟨cc, t, f, hc⟩ := jhQ (hh.ok h o hf).2.2 (jkF hf) hx
      rw [hc] at hd
      cases hd
     ·exact (O.blk_lt (hh.ok h o hf).2.2 hx).2 (.inr hb2))
   have hrQ : jd3 ρ0 w0 (stQ c k (jaU c k) (c.getD k []) (jbk (c.getD k []) 5)) { a2 with defers := { target := .collected D, args := #[] } :: a2.defers } W := by
    refine ⟨ρ', D :: l, ⟨fun t v hv => ?_, hr3.size, ?_, hhD, fun x hx => ?_, (show 1 ≤ 5 by decide)⟩, hmD, fun x hx => ?_, hbl.trans ((jkc hbl1).trans ((jkc hbl2).trans (jkc hb)))⟩
    ·have key : ∀ v : V, jaX (stP c k (jaU c k) (c.getD k [])).tm t = some v → v.lt 4 → v.lt 5 ∧ a2.tmps.getD t undef = v.val ρ' := fun v h1 h2 => by
      have h3 := hr3.tm t v h1
      exact ⟨h3.1, by rw [h3.2]; exact (V.val_agree hag4 h2).symm⟩
     simp only [stQ, jaX] at hv
     split at hv
     ·rename_i e; subst e; cases hv; exact key _ rfl (show 3 < 4 by decide)
     split at hv
     ·rename_i e; subst e; cases hv; exact key _ rfl trivial
     split at hv
     ·rename_i e; subst e; cases hv; exact key _ rfl trivial
     split at hv
     ·rename_i e; subst e; cases hv; exact key _ rfl (show 0 < 4 by decide)
     split at hv
     ·rename_i e; subst e; cases hv; exact key _ rfl (show 1 < 4 by decide)
     ·cases hv
    ·show _ :: a2.defers = _
     rw [hr3.defers]
     rfl
    ·rcases hx with hx | hx
     ·have : x < w0.heap.size := hx
      have := hb.size
      omega
     ·exact (Array.getElem?_eq_some_iff.1 (hmD.2 x hx).1).1
    ·exact (hag4 x (by omega)).trans ((hag3 x hx).trans ((hag2 x hx).trans ((hag1 x hx).trans (hag x hx))))
   have hp9 := p9_vc c k (jaU c k) (c.getD k []) hr6 (by rw [jfr]; omega)
   rw [← jgL] at hp9
   exact wpIn_wide.2 (hrQ.piece hp9)
  | exit j => exact hle.elim
  | ret => exact hle.elim
 ·intro ex ρ1 st1 a1 w1 hne hk1 hr1 hag1 hbl1
  cases ex with
  | normal => exact absurd rfl hne
  | exit j => exact hk1.elim
  | ret => exact hk1.elim
set_option maxHeartbeats 2000000 in
theorem jqB {Q : Exit → Act → World → Prop} (hl : c.length ≤ 1000000) (h6 : ∀ r ∈ c, jcu r = true) (h : jd3 ρ0 w0 (stO c 0 []) a w)
  (hQ : ∀ a' w', jd3 ρ0 w0 ⟨(12, vb false) :: (stO c c.length (jaU c c.length)).tm, (stO c c.length (jaU c c.length)).hp, 2⟩ a' w' → Q .normal a' w') :
  (Code.block 0 (.loop fcL)).wpIn Fence.wide 9 Tryz.prog Q a w := by
 refine wpIn_block (wpIn_loop (fun a w => ∃ k, k ≤ c.length ∧ jd3 ρ0 w0 (stO c k (jaU c k)) a w) (fun a _ => c.length - (intOf (a.tmps.getD 11 undef)).toNat) ⟨0, Nat.zero_le _, h⟩ ?_)
 rintro a w ⟨k, hk, ho⟩
 have hmu : ∀ {k' : Nat} {a' : Act} {w' : World}, jd3 ρ0 w0 (stO c k' (jaU c k')) a' w' → (intOf (a'.tmps.getD 11 undef)).toNat = k' := by
  rintro k' a' w' ⟨ρ, l, hr, _⟩
  rw [(hr.tm 11 _ rfl).2]
  simp [intOf]
 rw [hmu ho]
 have hL : fcL = .seq fcR3 (.seq (.cond (.tmp 12) .skip (.exit 0)) (.seq (.block 1 jgJ) jqZ)) := by kernel_rfl
 rw [hL]
 refine wpIn_seq (wpIn_mono (wpIn_wide.2 (ho.piece (p3_vc c k (jaU c k)))) ?_)
 rintro e a1 w1 ⟨rfl, ho1⟩
 have hc := ho1.t12 rfl
 by_cases hlt : k < c.length
 ·rw [decide_eq_true (show (k : Int) < (c.length : Int) by omega)] at hc ho1
  refine wpIn_seq (wpIn_cond_true hc (wpIn_skip (wpIn_seq (wpIn_block (wpIn_mono (jpt hlt hl (h6 _ ?_) ho1) ?_)))))
  ·rw [List.getD_eq_getElem?_getD, List.getElem?_eq_getElem hlt]
   exact List.getElem_mem hlt
  ·rintro e a2 w2 ⟨rfl, ho2⟩
   refine wpIn_mono (wpIn_wide.2 (ho2.piece (jrP c k (jaU c (k + 1)) (by omega)))) ?_
   rintro e a3 w3 ⟨rfl, ho3⟩
   exact ⟨⟨k + 1, hlt, ho3⟩, by rw [hmu ho3]; omega⟩
 ·have hk5 : k = c.length := by omega
  subst hk5
  rw [decide_eq_false (by omega)] at hc ho1
  exact wpIn_seq (wpIn_cond_false hc (wpIn_exit (hQ _ _ ho1)))
end
def jaY (c : List (List Int)) : Option ByteArray := if c.length ≤ 1000000 ∧ c.all jcu = true then some (jdk c) else none
def jex : List SV := [.c (.r (.recs 5 []))]
def jc1 : List Lf → Option GT
 | [.r (.recs 5 c)] => some (.leaf (ok (jaY c)) [.c (.d (.s (val (jaY c))))])
 | _ => none
abbrev sp_6 : jaa → jaa := ja3 6 true (jc6 jex jc1)
set_option maxHeartbeats 2000000 in
theorem jpu (c : List (List Int)) (hl : c.length ≤ 1000000) (h6 : ∀ r ∈ c, jcu r = true) (ρ0 : Env) (w : World) (hh : HRel ρ0 (fun k => k < w.heap.size) [(0, .ext (.recs 5 c))] 1 w) :
  Calls Tryz.prog 6 #[ρ0 0] w fun x w' => ∃ ρ', x = .returned (.string (jdk c)) ∧ jaf 1 ρ0 ρ' ∧ HRel ρ' (fun k => k < w.heap.size) [] 2 w' ∧ Bel (fun k => k < w.heap.size) w w' := by
 refine callsIn_wide.1 (callsIn_of_wp_marks (n := 9) (c := fcB) Tryz.func6 (by kernel_rfl) trivial (wpIn_wide.2 ?_) rfl)
 have hrel := jhp (n0 := 1) (N := 32) (args := [.w (.c (.o 0))]) (by decide) (fun x hx => by simp only [List.mem_singleton] at hx; subst hx; exact Nat.lt_succ_self 0) (Nat.le_refl _) ρ0 w hh (fun k hk => hk)
 refine jkC jcJ (jcy mixed jcJ) (cur := 0) (gs := []) 2 fcB _ ρ0 _ w (by kernel_rfl) (p0_vc c) hrel (jaf.refl _ _) (Bel.refl _ _) ?_ ?_
 ·intro ρ1 st1 a1 w1 hk1 hr1 hag1 hbl1
  have hT : jj7 2 fcB = .seq (.seq fcR2 (.block 0 (.loop fcL))) (.seq jq0 .ret) := by kernel_rfl
  rw [hT]
  refine (wpIn_wide (n := 9)).1 (wpIn_seq (wpIn_seq (wpIn_mono (wpIn_wide.2 (jbB jcJ (jcy mixed jcJ) fcR2 0 [] st1 _ ρ1 a1 w1 hk1 hr1 (jaf.refl _ _) (Bel.refl _ _))) ?_)))
  rintro x a2 w2 ⟨ex, ρ2, st2, rfl, hle, hr2, hag2, hbl2⟩
  cases ex with
  | normal =>
   obtain ⟨ρ3, hr3, hag3⟩ := Le.rel hle hr2
   have hB : MB (fun k => k < w.heap.size) [] = fun k => k < w.heap.size := by
    funext k
    simp [MB]
   have ho : jd3 ρ0 w (stO c 0 []) a2 w2 := ⟨ρ3, [], by rw [hB]; exact hr3, ⟨List.nodup_nil, fun D hD => by cases hD⟩, fun x hx => (hag3 x hx).trans ((hag2 x hx).trans (hag1 x hx)), hbl1.trans hbl2⟩
   refine jqB hl h6 ho fun a3 w3 ho3 => wpIn_seq (wpIn_mono (wpIn_wide.2 (ho3.piece (jrQ c c.length hl h6))) ?_)
   rintro e a4 w4 ⟨rfl, ρ4, l, hr4, hm4, hag4, hbl4⟩
   refine wpIn_ret ?_
   show LeavesInM _ _ _ _ _ _ _ _ _
   rw [hr4.defers]
   have hhB := hr4.heap.lessB (B := fun k => k < w.heap.size) (fun k h => .inl h) (hh.glob.bel hbl4) (fun h o hf => by cases hf)
   refine jkd (Pd := fun D => ¬ D < w.heap.size) (I := fun W => HRel ρ4 (fun k => k < w.heap.size) [] 2 W ∧ Bel (fun k => k < w.heap.size) w W) (fun D W hD hI hd => ?_) (fun W hI => ?_) l w4 hm4.1 (fun D hD => hm4.2 D hD) ⟨hhB, hbl4⟩
   ·have hold : Old (fun k => k < w.heap.size) W := fun k hk => Nat.lt_of_lt_of_le hk hI.2.size
    have hg := grownBy_putObj' W D (.deferred none)
    refine ⟨hI.1.grown hg hold (fun r e => by cases e; exact ⟨hD, _, hd, rfl⟩) (fun h o hf => by cases hf), hI.2.trans ⟨hg.os, hg.tape, hg.output, hg.size, fun k hk => hg.block k (hold k hk) (fun e => ?_)⟩⟩
    cases e
    exact hD hk
   ·refine ⟨.string (jdk c), ?_, ρ4, rfl, hag4, hI.1, hI.2⟩
    have h2 : a4.tmps.getD 2 undef = .string (jdk c) := (hr4.tm 2 _ rfl).2
    have : Tryz.f6.results = #[.tmp 2] := by kernel_rfl
    unfold results
    rw [this]
    simp only [Array.getD_eq_getD_getElem?] at h2
    simpa using h2
  | exit j => exact hle.elim
  | ret => exact hle.elim
 ·intro ex ρ1 st1 a1 w1 hne hk1 hr1 hag1 hbl1
  cases ex with
  | normal => exact absurd rfl hne
  | exit j => exact hk1.elim
  | ret => exact hk1.elim
theorem jhR : jah Tryz.prog 6 true (jc6 jex jc1) := by
 refine jeo (body := jai Tryz.f6) Tryz.func6 (by kernel_rfl) (by kernel_rfl) ?_
 intro ls t hg ho b hb ρ0 w hlt hh
 unfold jc1 at hg
 split at hg
 ·rename_i c
  cases hg
  obtain rfl := jhG hb
  have hk : ok (jaY c) := ho
  unfold jaY at hk
  have hn : c.length ≤ 1000000 ∧ c.all jcu = true := by
   by_cases h : c.length ≤ 1000000 ∧ c.all jcu = true
   ·exact h
   ·rw [if_neg h] at hk; cases hk
  have hv : val (jaY c) = jdk c := by
   unfold jaY
   rw [if_pos hn]
   rfl
  refine (jpu c hn.1 (fun r hr => List.all_eq_true.1 hn.2 r hr) ρ0 w hh).mono ?_
  rintro e w' ⟨ρ', rfl, hag, hh', hbel⟩
  refine ⟨ρ', .w (.c (.d (.s (jdk c)))), _, _, rfl, trivial, hag, hh', hbel, ?_⟩
  show mD _ _ ∧ True
  rw [hv]
  exact ⟨⟨rfl⟩, trivial⟩
 ·cases hg
theorem sp_6_ok {sp : jaa} (h : jac Tryz.prog sp) : jac Tryz.prog (sp_6 sp) := jax jhR h
end Go.Sh
end

section
namespace Go.Sh
open Go Go.Proofs Go.RowKit Go.Sx
def jik : List (Option Cont) := [some (.recs 5 []), none]
def jbF (c : List (List Int)) (s : ByteArray) : Option Bool :=
 Option.bind (jeK c) fun r0 =>
 if (!r0) = true then
  some true
 else
  if (↑(ByteArray.size s) : Int) > 200 then
  some true
  else
  Option.bind (jdi c) fun r1 =>
  Option.bind (jaY r1) fun r2 =>
  Option.bind (y22 s) fun r3 =>
  Option.bind (y25 s) fun r4 =>
  Option.bind (y26 c) fun r5 =>
  if (r2 != r5) = true then
   some false
  else
   if (r3.2 != r4.2) = true then
   some false
   else
   Option.bind (y44 r3.1 r4.1) fun r6 =>
   if (!r6) = true then
    some false
   else
    Option.bind (y22 r2) fun r7 =>
    Option.bind (y17 c) fun r8 =>
    if (r8.2 != 0) = true then
    some true
    else
    if (r7.2 == 0) = true then
     Option.bind (y44 r7.1 c) fun r9 =>
     some r9
    else
     some false
def jey : List A → Option (Prop × List RV)
 | [.r (.recs 5 c), .d (.s s)] => some (ok (jbF c s), [.d (.b ((val (jbF c s))))])
 | _ => none
def jil (c : List (List Int)) (s : ByteArray) : T (Bool) :=
 .obC (ok jfp) (by decide)
 (.call (jeK c) fun r0 =>
 .brB (!r0)
 (.obT
 (.rc (true)))
 (.brP ((↑(ByteArray.size s) : Int) > 200)
 (.obT
 (.rc (true)))
 (.call (jdi c) fun r1 =>
 .call (jaY r1) fun r2 =>
 .call (y22 s) fun r3 =>
 .call (y25 s) fun r4 =>
 .call (y26 c) fun r5 =>
 .brB (r2 != r5)
 (.obT
 (.rc (false)))
 (.brB (r3.2 != r4.2)
 (.obT
 (.rc (false)))
 (.call (y44 r3.1 r4.1) fun r6 =>
 .brB (!r6)
 (.obT
 (.rc (false)))
 (.call (y22 r2) fun r7 =>
 .call (y17 c) fun r8 =>
 .brB (r8.2 != 0)
 (.obT
 (.rc (true)))
 (.brB (r7.2 == 0)
 (.call (y44 r7.1 c) fun r9 =>
 .obT
 (.rc (r9)))
 (.obT
 (.rc (false))))))))))
theorem jhS (c : List (List Int)) (s : ByteArray) (r : Bool) (h : Option.bind (jbF c s) some = some r) : jaI Tryz.f3 ((sp_4 (sp_5 (sp_7 (sp_6 (sp_9 (sp_10 (sp_8 (sp_12 (sp_11 sp0)))))))))) (fun _ _ _ => none) [.r (.recs 5 c), .d (.s s)] [.d (.b r)] :=
 T.vc (t := jil c s) (by kernel_rfl) (by kernel_rfl) h
theorem jhT : jah Tryz.prog 3 true (jaG jik jey) := by
 refine jaR (sp := (sp_4 (sp_5 (sp_7 (sp_6 (sp_9 (sp_10 (sp_8 (sp_12 (sp_11 sp0)))))))))) (fn := Tryz.f3) (body := jai Tryz.f3) mixed (sp_4_ok (sp_5_ok (sp_7_ok (sp_6_ok (sp_9_ok (sp_10_ok (sp_8_ok (sp_12_ok (sp_11_ok jam))))))))) Tryz.func3 (by kernel_rfl) (by kernel_rfl) fun as_ ob rs h ho => ?_
 unfold jey at h
 split at h
 ·rename_i c s
  cases h
  exact ⟨Nat.le_of_ble_eq_true rfl, _, _, jhS c s _ (ja7 ho)⟩
 ·cases h
end Go.Sh
end

section
namespace Go.Sh
open Go Go.Proofs Go.RowKit Go.Sx Go.Sx06 Go.Lib
open Go.IntKind (wrap)
open Go.Sx06u (ja6 ja8)
def az (n : Int) : Int := max n (-n)
theorem jrT (n : Int) : az n = (n.natAbs : Int) := by unfold az; omega
def mkB (l : List UInt8) : ByteArray := ⟨l.toArray⟩
theorem jd4 (l : List UInt8) : (mkB l).data.toList = l := rfl
theorem jrU (s : ByteArray) : mkB s.data.toList = s := mk_data s
theorem jaS (l : List UInt8) : (mkB l).size = l.length := by rw [size_eq]; rfl
theorem jif (s : ByteArray) (j : Nat) : Array.getD s.data j 0 = s.data.toList.getD j 0 := by
 obtain ⟨⟨l⟩⟩ := s
 simp [Array.getD, List.getD]
 split
 ·rename_i h; rw [List.getElem?_eq_getElem h]; rfl
 ·rename_i h; rw [List.getElem?_eq_none (by omega)]; rfl
def jbl (c : UInt8) (l : List UInt8) : Nat → Nat × List (List UInt8)
 | 0 => (0, [])
 | j + 1 => if l.getD j 0 = c then (j + 1, (jbl c l j).2 ++ [(l.drop (jbl c l j).1).take (j - (jbl c l j).1)]) else jbl c l j
theorem jgO (c : UInt8) (l : List UInt8) : ∀ j, (jbl c l j).1 ≤ j ∧ (jbl c l j).2.length ≤ j
 | 0 => ⟨Nat.le_refl _, Nat.le_refl _⟩
 | j + 1 => by
  have ih := jgO c l j
  unfold jbl
  split
  ·simp; omega
  ·omega
theorem jk6 (c : UInt8) (l : List UInt8) : ∀ j, j ≤ l.length → (jbl c l j).2 ++ jaE c ((l.drop (jbl c l j).1).take (j - (jbl c l j).1)) (l.drop j) = jaE c [] l
 | 0, _ => by simp [jbl]
 | j + 1, h => by
  have ih := jk6 c l j (by omega)
  have hle := (jgO c l j).1
  have hd : l.drop j = l.getD j 0 :: l.drop (j + 1) := by
   rw [List.drop_eq_getElem_cons (by omega)]
   simp [List.getD, show j < l.length by omega]
  rw [hd] at ih
  have hg : ∀ p, jaE c p (l.getD j 0 :: l.drop (j + 1)) = if l.getD j 0 = c then p :: jaE c [] (l.drop (j + 1)) else jaE c (p ++ [l.getD j 0]) (l.drop (j + 1)) := fun p => rfl
  rw [hg] at ih
  unfold jbl
  by_cases hc : l.getD j 0 = c
  ·rw [if_pos hc] at ih
   rw [if_pos hc, ← ih]
   simp
  ·rw [if_neg hc] at ih
   rw [if_neg hc, ← ih]
   have e : (l.drop (jbl c l j).1).take (j + 1 - (jbl c l j).1) = (l.drop (jbl c l j).1).take (j - (jbl c l j).1) ++ [l.getD j 0] := by
    rw [show j + 1 - (jbl c l j).1 = (j - (jbl c l j).1) + 1 by omega, List.take_add_one, List.getElem?_drop]
    congr 1
    rw [show (jbl c l j).1 + (j - (jbl c l j).1) = j by omega]
    simp [List.getD, show j < l.length by omega]
   rw [e]
theorem joy (x c : UInt8) : (((x.toNat : Nat) : Int) == ((c.toNat : Nat) : Int)) = decide (x = c) := by
 by_cases h : x = c
 ·subst h; simp
 ·rw [decide_eq_false h]
  have : x.toNat ≠ c.toNat := fun e => h (UInt8.toNat_inj.1 e)
  simp; omega
theorem jnx (s : ByteArray) (c : UInt8) (hs : s.size ≤ 1000000) : jak s (c.toNat : Int) = some ((jaE c [] s.data.toList).map mkB) := by
 have hl := size_eq s
 generalize hL : s.data.toList = l at *
 have hx : ∀ a b : Nat, ByteArray.extract s a b = mkB ((l.drop a).take (b - a)) := fun a b => by rw [extract_eq, hL]; rfl
 have e1 : jad (y45 s (c.toNat : Int)) big ((0 : Int), (0 : Int), []) = some (((jbl c l l.length).1 : Int), (jbl c l l.length).2.map mkB) := by
  refine jbP (fun j => (((jbl c l j).1 : Int), (j : Int), (jbl c l j).2.map mkB)) (k := l.length) (fun j hj => ?_) ?_ (by omega)
  ·have hle := jgO c l j
   unfold y45
   dsimp only
   rw [if_pos (by omega), if_pos (by omega), Int.toNat_natCast, jif, hL, joy]
   conv => rhs; unfold jbl
   by_cases hc : l.getD j 0 = c
   ·rw [decide_eq_true hc, if_pos rfl, if_pos hc, if_pos (by simp only [Option.getD_some]; omega), if_pos (by simp; omega)]
    simp only [Option.getD_some, Int.toNat_natCast, hx]
    rw [jcq (by omega)]
    simp
   ·rw [decide_eq_false hc, if_neg Bool.false_ne_true, if_neg hc, jcq (by omega)]
    rfl
  ·unfold y45
   dsimp only
   rw [if_neg (by omega)]
 have hle := jgO c l l.length
 have hi := jk6 c l l.length (Nat.le_refl _)
 rw [List.drop_length] at hi
 unfold jak
 rw [e1, jan]
 unfold jdj
 dsimp only
 rw [if_pos (by simp only [Option.getD_some, Option.getD_none]; omega), if_pos (by simp; omega)]
 simp only [Option.getD_some, Option.getD_none, Int.toNat_natCast, hx, hl]
 rw [← hi]
 simp [jaE]
theorem jqC {d : List UInt8} : (jbq d = true ∧ ∀ i, i < d.length → jcc (d.getD i 0) = true) ∨ (jbq d = false ∧ ∃ j, j < d.length ∧ jcc (d.getD j 0) = false ∧ ∀ i, i < j → jcc (d.getD i 0) = true) := by
 induction d with
 | nil => left; exact ⟨rfl, fun i hi => by simp at hi⟩
 | cons x d ih =>
  cases hx : jcc x with
  | false => right; exact ⟨by simp [jbq, hx], 0, by simp, by simpa using hx, fun i hi => by omega⟩
  | true =>
   rcases ih with ⟨h1, h2⟩ | ⟨h1, j, h2, h3, h4⟩
   ·left
    refine ⟨by unfold jbq at h1 ⊢; simp [hx, h1], fun i hi => ?_⟩
    cases i with
    | zero => simpa using hx
    | succ i => have := h2 i (by simpa using hi); simpa using this
   ·right
    refine ⟨by unfold jbq at h1 ⊢; simp [hx, h1], j + 1, by simpa using h2, by simpa using h3, fun i hi => ?_⟩
    cases i with
    | zero => simpa using hx
    | succ i => have := h4 i (by omega); simpa using this
theorem jpv {d : List UInt8} {i : Nat} (h : i < d.length) : ja0 0 (d.take (i + 1)) = ja0 0 (d.take i) * 10 + ((d.getD i 0).toNat - 48) := by
 rw [List.take_succ_eq_append_getElem h, jea]
 simp [List.getD, h]
theorem jpw {d : List UInt8} {j : Nat} (hj : j ≤ d.length) (h : ∀ i, i < j → jcc (d.getD i 0) = true) : jbq (d.take j) = true := by
 unfold jbq
 rw [List.all_eq_true]
 intro x hx
 obtain ⟨i, hi, rfl⟩ := List.getElem_of_mem hx
 rw [List.length_take] at hi
 have := h i (by omega)
 simpa [List.getD, show i < d.length by omega] using this
theorem jpx {d : List UInt8} {i : Nat} (hl : i ≤ 17) (hi : i ≤ d.length) (h : ∀ j, j < i → jcc (d.getD j 0) = true) : ja0 0 (d.take i) < 100000000000000000 := by
 have a := jhW (d.take i) 0 (jpw hi h)
 rw [Nat.zero_add, Nat.one_mul] at a
 have b : 10 ^ (d.take i).length ≤ 10 ^ 17 := Nat.pow_le_pow_right (by omega) (by rw [List.length_take]; omega)
 have c : (10 : Nat) ^ 17 = 100000000000000000 := by decide
 omega
theorem jiI (s : ByteArray) (at_ : Nat) (hat : at_ ≤ s.size) (hsz : s.size ≤ 1000000) (hl : s.size - at_ ≤ 18) :
  jad (y5 s) big ((at_ : Int), (0 : Int), (at_ : Int)) = some (if jbq (s.data.toList.drop at_) = true then .inr ((at_ : Int), (ja0 0 (s.data.toList.drop at_) : Int)) else .inl ()) := by
 have hs := size_eq s
 generalize hL : s.data.toList = l at *
 have hdl : (l.drop at_).length = l.length - at_ := List.length_drop
 have hget : ∀ i, (l.drop at_).getD i 0 = l.getD (at_ + i) 0 := fun i => by simp [List.getD, List.getElem?_drop]
 have jbS : ∀ i, i < (l.drop at_).length → (∀ j, j < i → jcc ((l.drop at_).getD j 0) = true) →
   y5 s ((at_ : Int), (ja0 0 ((l.drop at_).take i) : Int), ((at_ + i : Nat) : Int)) = if jcc ((l.drop at_).getD i 0) = true then some (.inl ((at_ : Int), (ja0 0 ((l.drop at_).take (i + 1)) : Int), ((at_ + (i + 1) : Nat) : Int))) else some (.inr (.inl ())) := by
  intro i hi hd
  have sm := jpx (d := l.drop at_) (i := i) (by omega) (by omega) hd
  unfold y5
  dsimp only
  rw [if_pos (by omega), if_pos (by omega), Int.toNat_natCast, jif, hL, ← hget]
  by_cases h1 : 48 ≤ ((l.drop at_).getD i 0).toNat
  ·rw [if_neg (by omega), if_pos (by omega)]
   by_cases h2 : ((l.drop at_).getD i 0).toNat ≤ 57
   ·rw [if_neg (by omega), if_pos (by omega), if_pos (jbR.2 ⟨h1, h2⟩), jpv hi]
    have u8 : wrap IntKind.u8 ((((l.drop at_).getD i 0).toNat : Int) - 48) = (((l.drop at_).getD i 0).toNat : Int) - 48 := by
     have hw : ∀ y : Int, IntKind.u8.wrap y = y % 256 := fun y => by
      unfold wrap
      simp [IntKind.signed, IntKind.bits]
     rw [hw]
     omega
    rw [u8, jcq (x := 10 * _) (by omega), jcq (x := (((l.drop at_).getD i 0).toNat : Int) - 48) (by omega), jcq (by omega), jcq (by omega)]
    congr 3
    exact Prod.ext (by dsimp only; omega) (by dsimp only; omega)
   ·rw [if_pos (by omega), if_neg (fun h => h2 (jbR.1 h).2)]
  ·rw [if_pos (by omega), if_neg (fun h => h1 (jbR.1 h).1)]
 rcases jqC (d := l.drop at_) with ⟨h1, h2⟩ | ⟨h1, j, h2, h3, h4⟩
 ·rw [h1, if_pos rfl]
  have := jbP (body := y5 s) (fun i => ((at_ : Int), (ja0 0 ((l.drop at_).take i) : Int), ((at_ + i : Nat) : Int))) (k := (l.drop at_).length) (y := .inr ((at_ : Int), (ja0 0 (l.drop at_) : Int)))
   (fun i hi => by rw [jbS i hi (fun j hj => h2 j (by omega)), h2 i hi, if_pos rfl])
   (by
    unfold y5
    dsimp only
    rw [if_neg (by omega), List.take_length]) (by omega)
  exact this
 ·rw [h1, if_neg Bool.false_ne_true]
  have := jbP (body := y5 s) (fun i => ((at_ : Int), (ja0 0 ((l.drop at_).take i) : Int), ((at_ + i : Nat) : Int))) (k := j) (y := .inl ())
   (fun i hi => by rw [jbS i (by omega) (fun q hq => h4 q (by omega)), h4 i hi, if_pos rfl])
   (by rw [jbS j h2 h4, h3, if_neg Bool.false_ne_true]) (by omega)
  exact this
theorem jd5 (a b : List UInt8) : mkB a ++ mkB b = mkB (a ++ b) := by
 apply ByteArray.ext
 show (mkB a ++ mkB b).data = _
 rw [ByteArray.data_append]
 simp [mkB]
theorem jke (a b : ByteArray) : (a == b) = decide (a = b) := by
 obtain ⟨⟨x⟩⟩ := a
 obtain ⟨⟨y⟩⟩ := b
 show ((⟨x⟩ : Array UInt8) == ⟨y⟩) = _
 rw [Bool.eq_iff_iff]
 simp
theorem jrq {a b : List UInt8} (h : mkB a = mkB b) : a = b := by
 have := congrArg (fun s : ByteArray => s.data.toList) h
 exact this
theorem joz (x : UInt8) : (((x.toNat : Nat) : Int) == 48) = decide (x = 48) := joy x 48
theorem u8_45 (x : UInt8) : (((x.toNat : Nat) : Int) == 45) = decide (x = 45) := joy x 45
theorem joA (s : ByteArray) (k : Nat) (hk : k ≤ 17) (hs : s.size ≤ 1000000) :
  y14 s (k : Int) = some (match jaK k s.data.toList with | some v => (v, true) | none => (0, false)) := by
 have hl := size_eq s
 have h0 : Array.getD s.data 0 0 = s.data.toList.getD 0 0 := jif s 0
 have h1 : Array.getD s.data 1 0 = s.data.toList.getD 1 0 := jif s 1
 have b0 := fun h : s.size ≤ 18 => jiI s 0 (Nat.zero_le _) hs h
 have b1 := fun h1 h => jiI s 1 h1 hs h
 generalize hL : s.data.toList = l at *
 cases l with
 | nil =>
  unfold y14
  simp only [List.length_nil] at hl
  rw [if_neg (by omega), if_pos (by simp [hl])]
  rfl
 | cons x r =>
  simp only [List.length_cons] at hl
  have g0 : (x :: r).getD 0 0 = x := rfl
  rw [g0] at h0
  unfold y14
  rw [if_pos (by omega), if_pos (by omega), h0]
  by_cases hx : x = 45
  ·subst hx
   rw [if_pos (by decide)]
   have hb : behind (45 :: r) = r := rfl
   have hh : (45 :: r : List UInt8).head? = some 45 := rfl
   unfold jaK
   rw [hb]
   by_cases hr : r = []
   ·subst hr
    rw [if_pos (by simp [hl]), if_pos (.inl rfl)]
   ·have hr2 : r.length ≠ 0 := fun h => hr (List.eq_nil_of_length_eq_zero h)
    rw [if_neg (by simp; omega), jcq (by omega)]
    by_cases hkk : k < r.length
    ·rw [if_pos (by omega), if_pos (.inr (.inl hkk))]
    ·rw [if_neg (by omega), if_pos (by omega), h1]
     obtain ⟨y, q, rfl⟩ : ∃ y q, r = y :: q := by
      cases r with
      | nil => exact absurd rfl hr
      | cons y q => exact ⟨y, q, rfl⟩
     have g1 : (45 :: y :: q : List UInt8).getD 1 0 = y := rfl
     rw [g1]
     by_cases hy : y = 48
     ·subst hy
      rw [if_pos (by decide), if_pos (by omega), if_pos (.inr (.inr (.inl ⟨rfl, by simp⟩)))]
     ·have hy' : ¬ (((y.toNat : Nat) : Int) == 48) = true := by
       rw [joz]
       simpa using hy
      rw [if_neg hy']
      have hb1 := b1 (by omega) (by omega)
      rw [show ((1 : Nat) : Int) = 1 from rfl] at hb1
      rw [hb1, jan, show List.drop 1 (45 :: y :: q) = y :: q from rfl]
      unfold y7
      cases hd : jbq (y :: q) with
      | false =>
       rw [if_neg Bool.false_ne_true, if_pos (.inr (.inr (.inr rfl)))]
       rfl
      | true =>
       have hlt := jhW (y :: q) 0 hd
       rw [Nat.zero_add, Nat.one_mul] at hlt
       have hp := Nat.pow_le_pow_right (show 0 < 10 by omega) (show (y :: q).length ≤ 17 by omega)
       have h17 : (10 : Nat) ^ 17 = 100000000000000000 := by decide
       have hc : ¬ (y :: q = [] ∨ k < (y :: q).length ∨ ((y :: q).head? = some 48 ∧ 1 < (45 :: y :: q : List UInt8).length) ∨ true = false) := by
        rintro (h | h | h | h)
        ·cases h
        ·omega
        ·exact hy (Option.some.inj h.1)
        ·cases h
       rw [if_pos rfl, if_neg hc, if_pos hh]
       show jev (1, (ja0 0 (y :: q) : Int)) = _
       unfold jev
       dsimp only
       rw [if_pos (by decide), jcq (by omega)]
       simp
  ·have hx' : ¬ (((x.toNat : Nat) : Int) == 45) = true := by
    rw [u8_45]
    simpa using hx
   rw [if_neg hx']
   have hh : ¬ (x :: r).head? = some 45 := fun h => hx (Option.some.inj h)
   have hb : behind (x :: r) = x :: r := by unfold behind; rw [if_neg hh]
   unfold jaK
   rw [hb, if_neg (show ¬ (((s.size : Nat) : Int) == 0) = true from fun h => by have := eq_of_beq h; omega), jcq (x := (s.size : Int) - 0) (by omega)]
   by_cases hkk : k < r.length + 1
   ·rw [if_pos (by omega), if_pos (.inr (.inl hkk))]
   ·rw [if_neg (by omega), if_pos (by omega)]
    have fin : (x = 48 → r = []) → Option.bind (jad (y5 s) big ((0 : Int), (0 : Int), (0 : Int))) y7 = some (match (if x :: r = [] ∨ k < (x :: r).length ∨ ((x :: r).head? = some 48 ∧ 1 < (x :: r).length) ∨ jbq (x :: r) = false then none else some (if (x :: r).head? = some 45 then -(ja0 0 (x :: r) : Int) else (ja0 0 (x :: r) : Int)) : Option Int) with | some v => (v, true) | none => (0, false)) := by
     intro h48
     have hb0 := b0 (by omega)
     rw [show ((0 : Nat) : Int) = 0 from rfl] at hb0
     rw [hb0, jan, List.drop_zero]
     unfold y7
     cases hd : jbq (x :: r) with
     | false =>
      rw [if_neg Bool.false_ne_true, if_pos (.inr (.inr (.inr rfl)))]
      rfl
     | true =>
      have hc : ¬ (x :: r = [] ∨ k < (x :: r).length ∨ ((x :: r).head? = some 48 ∧ 1 < (x :: r).length) ∨ true = false) := by
       rintro (h | h | h | h)
       ·cases h
       ·simp at h; omega
       ·have := h48 (Option.some.inj h.1)
        subst this
        simp at h
       ·cases h
      rw [if_pos rfl, if_neg hc, if_neg hh]
      rfl
    by_cases hy : x = 48
    ·have hy' : (((x.toNat : Nat) : Int) == 48) = true := by rw [joz]; simpa using hy
     rw [if_pos hy']
     by_cases hr : r = []
     ·rw [if_neg (by subst hr; simp at hl; omega)]
      exact fin fun _ => hr
     ·have hr2 : r.length ≠ 0 := fun h => hr (List.eq_nil_of_length_eq_zero h)
      rw [if_pos (by omega), if_pos (.inr (.inr (.inl ⟨by rw [hy]; rfl, by simp; omega⟩)))]
    ·have hy' : ¬ (((x.toNat : Nat) : Int) == 48) = true := by rw [joz]; simpa using hy
     rw [if_neg hy']
     exact fin fun h => absurd h hy
theorem jpy {d : Nat} (h : d < 10) : jcG [wrap IntKind.u8 (wrap IntKind.i64 ((48 : Int) + (d : Int)))] = mkB [UInt8.ofNat (48 + d)] := by
 have hw : ∀ y : Int, IntKind.u8.wrap y = y % 256 := fun y => by
  unfold wrap
  simp [IntKind.signed, IntKind.bits]
 rw [jcq (by omega), hw]
 unfold jcG mkB
 simp only [List.foldl_cons, List.foldl_nil]
 rw [show ((48 + (d : Int)) % 256).toNat = 48 + d by omega]
 rfl
theorem jmw : ∀ (u : Nat) (x : Int) (s : List UInt8) (sg : ByteArray) (N : Nat), x.natAbs = u → u ≠ 0 → -9223372036854775808 ≤ x → x ≤ 9223372036854775807 → s.length + (decDigits u).length ≤ 1000 → u < N →
  jad y18 N (x, mkB s, sg) = some (mkB (decDigits u ++ s), sg) := by
 intro u
 induction u using Nat.strongRecOn with
 | _ u ih =>
  intro x s sg N hx hu h1 h2 hS hN
  obtain ⟨M, rfl⟩ : ∃ M, N = M + 1 := ⟨N - 1, by omega⟩
  have hd : az (x.tmod 10) = ((u % 10 : Nat) : Int) := by
   rw [jrT, Int.natAbs_tmod, hx]
   rfl
  have hq : (x.tdiv 10).natAbs = u / 10 := by rw [Int.natAbs_tdiv, hx]; rfl
  have hin : inJ (x.tmod 10) := by
   have : (x.tmod 10).natAbs = u % 10 := by rw [Int.natAbs_tmod, hx]; rfl
   unfold inJ; omega
  have jbS : y18 (x, mkB s, sg) = some (.inl (x.tdiv 10, mkB (UInt8.ofNat (48 + u % 10) :: s), sg)) := by
   unfold y18
   dsimp only
   rw [if_pos (by simp; omega), if_pos (by unfold inJ at hin; omega)]
   have hd' : max (x.tmod 10) (-x.tmod 10) = ((u % 10 : Nat) : Int) := hd
   rw [hd', jpy (by omega)]
   rw [if_pos (by rw [jaS, jaS]; simp; omega), jd5, jcq (by omega)]
   rfl
  have hne : jad y18 (M + 1) (x, mkB s, sg) = jad y18 M (x.tdiv 10, mkB (UInt8.ofNat (48 + u % 10) :: s), sg) := by
   conv => lhs; unfold jad
   rw [jbS]
  rw [hne]
  by_cases h10 : u < 10
  ·have hz : x.tdiv 10 = 0 := by omega
   obtain ⟨M', rfl⟩ : ∃ M', M = M' + 1 := ⟨M - 1, by omega⟩
   rw [hz, jbG h10, show u % 10 = u by omega]
   unfold jad y18
   rfl
  ·have hl : (decDigits u).length = (decDigits (u / 10)).length + 1 := by rw [jeg h10]; simp
   rw [ih (u / 10) (by omega) (x.tdiv 10) _ sg M hq (by omega) (by omega) (by omega) (by simp; omega) (by omega), jeg h10]
   simp
theorem jqD {n : Int} (h : -9223372036854775808 ≤ n ∧ n ≤ 9223372036854775807) : (decDigits n.natAbs).length ≤ 21 := by
 have := itoa_length_le n h.1 h.2
 unfold itoa at this
 split at this
 ·simp at this; omega
 ·rw [show n.natAbs = n.toNat by omega]; exact this
theorem jnb {n : Int} (h : -9223372036854775808 ≤ n ∧ n ≤ 9223372036854775807) : y15 n = some (mkB (itoa n)) := by
 have hl := jqD h
 unfold y15 itoa
 by_cases h0 : n = 0
 ·subst h0
  rw [if_pos (by decide), if_neg (by decide), show (0 : Int).toNat = 0 from rfl, jbG (by omega)]
  rfl
 ·rw [if_neg (by simpa using h0)]
  have dl := fun sg => jmw n.natAbs n [] sg big rfl (by omega) h.1 h.2 (by simp; omega) (by unfold big; omega)
  simp only [List.append_nil] at dl
  by_cases hn : n < 0
  ·rw [if_pos hn, if_pos hn]
   have e := dl (mkB [45])
   rw [show (n, ByteArray.mk #[], ByteArray.mk #[(45 : UInt8)]) = (n, mkB [], mkB [45]) from rfl, e, jan]
   unfold y24
   dsimp only
   rw [if_pos (by rw [jaS, jaS]; simp; omega), jd5]
   rfl
  ·rw [if_neg hn, if_neg hn]
   have e := dl (mkB [])
   rw [show (n, ByteArray.mk #[], ByteArray.mk #[]) = (n, mkB [], mkB []) from rfl, e, jan]
   unfold y24
   dsimp only
   rw [if_pos (by rw [jaS, jaS]; simp; omega), jd5, show n.natAbs = n.toNat by omega]
   rfl
theorem jk7 (s : ByteArray) (c : UInt8) (hs : s.size ≤ 1000000) : strings_Split s (mkB [c]) = some ((jaE c [] s.data.toList).map mkB) := by
 unfold strings_Split
 rw [if_pos ⟨hs, by rw [jaS]; simp⟩]
 have e := splitB_data (mkB [c]) 0 (countB s (mkB [c])) s
 have e2 : (splitB (mkB [c]) 0 (countB s (mkB [c])) s).map (·.data.toList) = jaE c [] s.data.toList := by
  rw [e]
  exact jkG c s.data.toList
 rw [← e2, List.map_map]
 congr 1
 conv => lhs; rw [← List.map_id (splitB (mkB [c]) 0 (countB s (mkB [c])) s)]
 refine List.map_congr_left fun x _ => ?_
 exact (jrU x).symm
theorem jkf (b0 b1 b2 a0 a1 : Int) : y21 b0 b1 b2 a0 a1 = some (ja8 b0 b1 b2 a0 a1) := by
 have h := jjQ [b0, b1, b2, a0, a1] 0 (fun n => !ja6 n) (body := y19 b0 b1 b2 a0 a1) (fun _ => .inl ()) (.inr ()) (by simp)
  (fun i hi hp => by
   unfold y19
   rw [if_pos (by omega), if_pos (by omega), if_pos (by omega), if_pos (by simpa [ja6] using hp)])
  (fun i hi hp => by
   unfold y19
   rw [if_pos (by omega), if_pos (by omega), if_pos (by omega), if_neg (by simpa [ja6] using hp), jcq (by simp at hi; omega)])
  (by unfold y19; rw [if_neg (by omega)])
 unfold y21
 rw [h]
 unfold ja8
 cases hf : [b0, b1, b2, a0, a1].findIdx? (fun n => !ja6 n) with
 | none =>
  rw [List.findIdx?_eq_none_iff] at hf
  rw [if_pos (List.all_eq_true.2 fun x hx => by simpa using hf x hx)]
  rfl
 | some k =>
  rw [List.findIdx?_eq_some_iff_getElem] at hf
  obtain ⟨hk, hp, _⟩ := hf
  rw [if_neg (fun hc => by have := List.all_eq_true.1 hc _ (List.getElem_mem hk); rw [this] at hp; cases hp)]
  rfl
theorem jrV (c : List (List Int)) : jeK c = some (decide ((c.length : Int) ≤ 8)) := rfl
theorem jrr {c : List (List Int)} (h : c.length ≤ 1000000000000) : jdi c = some c := by
 unfold jdi
 rw [if_pos (by omega), List.nil_append]
theorem jk8 (r : List Int) : y21 (r.getD 0 0) (r.getD 1 0) (r.getD 2 0) (r.getD 3 0) (r.getD 4 0) = some (jbb r) := jkf _ _ _ _ _
theorem jfs {c : List (List Int)} (hl : c.length ≤ 1000000000000) : y17 c = some (jfD c, chkE c) := by
 unfold y17 jfD chkE
 by_cases h6 : 6 < c.length
 ·rw [if_pos (by omega), if_pos h6, if_pos h6]
 ·rw [if_neg (by omega), if_neg h6, if_neg h6]
  have h := jjQ c [] (fun r => jbb r != 0) (body := y20 c) (fun i => .inl ((i : Int), jbb (c.getD i []))) (.inr ()) (by omega)
   (fun i hi hp => by
    unfold y20
    rw [if_pos (by omega), if_pos (by omega), if_pos (by omega), Int.toNat_natCast, jk8, jan, if_pos hp])
   (fun i hi hp => by
    unfold y20
    rw [if_pos (by omega), if_pos (by omega), if_pos (by omega), Int.toNat_natCast, jk8, jan, if_neg (by rw [hp]; simp), jcq (by omega)])
   (by unfold y20; rw [if_neg (by omega)])
  rw [h]
  cases c.findIdx? (fun r => jbb r != 0) <;> rfl
end Go.Sh
end

section
namespace Go.Sh
open Go Go.Proofs Go.RowKit Go.Sx Go.Sx06 Go.Lib
open Go.Sx06u (ja6 ja8)
theorem jd6 (c : UInt8) : ∀ (l pre : List UInt8), ∀ x ∈ jaE c pre l, x.length ≤ pre.length + l.length
 | [], pre, x, hx => by
  simp only [jaE, List.mem_singleton] at hx
  subst hx
  simp
 | y :: r, pre, x, hx => by
  unfold jaE at hx
  split at hx
  ·rcases List.mem_cons.1 hx with rfl | hx
   ·simp
   ·have := jd6 c r [] x hx
    simp at this ⊢
    omega
  ·have := jd6 c r (pre ++ [y]) x hx
   simp at this ⊢
   omega
theorem je3 (c : UInt8) : ∀ (l pre : List UInt8), (jaE c pre l).length ≤ l.length + 1
 | [], pre => by simp [jaE]
 | y :: r, pre => by
  unfold jaE
  split
  ·have := je3 c r []
   simp
   omega
  ·have := je3 c r (pre ++ [y])
   simp
   omega
def jb3 (p : List UInt8) : Option (List Int) := match jaE 32 [] p with
 | [w0, w1, w2, w3, w4] => (jaK 6 w0).bind fun a => (jaK 6 w1).bind fun b => (jaK 6 w2).bind fun c => (jaK 6 w3).bind fun d => (jaK 6 w4).bind fun e => some [a, b, c, d, e]
 | _ => none
theorem je4 {α : Type} (w : List UInt8) (hs : w.length ≤ 1000000) (F N : Option α) :
  (if jbL (mkB w) = true then if ByteArray.size (mkB w) ≤ 1000000 then Option.bind (strconv_Itoa (jag (mkB w))) fun r1 => if (r1 != mkB w) = true then F else
    Option.bind (strings_TrimPrefix (mkB w) (ByteArray.mk #[(45 : UInt8)])) fun r2 => if (↑(ByteArray.size r2) : Int) > (6 : Int) then F else N else none
   else if ByteArray.size (mkB w) ≤ 1000000 then F else none) = if (jaK 6 w).isSome = true then N else F := by
 have hsz : ByteArray.size (mkB w) ≤ 1000000 := by rw [jaS]; exact hs
 rw [if_pos hsz, if_pos hsz]
 have htrim : strings_TrimPrefix (mkB w) (ByteArray.mk #[(45 : UInt8)]) = some (mkB (trimPrefix w [45])) := rfl
 cases hn : jaK 6 w with
 | some v =>
  obtain ⟨p1, p2, p3, p4⟩ := jqP (by omega) hn
  have hv : jag (mkB w) = v := by unfold jag; rw [jd4, p2]
  have hb : jbL (mkB w) = true := by unfold jbL; rw [jd4, p2]
  have hr : -9223372036854775808 ≤ v ∧ v ≤ 9223372036854775807 := by
   have h6 : (10 : Nat) ^ 6 = 1000000 := by decide
   omega
  have hi : strconv_Itoa v = some (mkB w) := by unfold strconv_Itoa; rw [if_pos hr, p1]; rfl
  rw [if_pos hb, hv, hi, jan, if_neg (by simp [jke, bne]), htrim, jan, if_neg (by rw [jaS]; omega)]
  rfl
 | none =>
  rw [if_neg (show ¬ (none : Option Int).isSome = true by simp)]
  cases hb : jbL (mkB w) with
  | false => rfl
  | true =>
   rw [if_pos rfl]
   have hr : -9223372036854775808 ≤ jag (mkB w) ∧ jag (mkB w) ≤ 9223372036854775807 := by
    unfold jbL at hb
    unfold jag
    cases ha : atoiAll (mkB w).data.toList with
    | ok v => exact atoiAll_bounds ha
    | _ => rw [ha] at hb; cases hb
   have hi : strconv_Itoa (jag (mkB w)) = some (mkB (itoa (jag (mkB w)))) := by unfold strconv_Itoa; rw [if_pos hr]; rfl
   rw [hi, jan]
   by_cases he : mkB (itoa (jag (mkB w))) = mkB w
   ·have hl := jrq he
    rw [if_neg (by simp [jke, bne, he]), htrim, jan, if_pos]
    rw [jaS]
    refine Int.not_le.1 fun hle => ?_
    have := jqQ (k := 6) (n := jag (mkB w)) (by rw [hl]; omega)
    rw [hl, hn] at this
    cases this
   ·rw [if_pos (by simp [jke, bne, he])]
theorem jep {w : List UInt8} {v : Int} (h : jaK 6 w = some v) : jag (mkB w) = v := by
 have := (jqP (by omega) h).2.1
 unfold jag
 rw [jd4, this]
set_option maxHeartbeats 2000000 in
theorem jqE (p : List UInt8) (hp : p.length ≤ 1000000) : ∃ a b c d e, y4 (mkB p) = some (a, b, c, d, e, (jb3 p).isSome) ∧ ∀ r, jb3 p = some r → r = [a, b, c, d, e] := by
 have hx := jd6 32 p []
 have e0 : strings_Split (mkB p) (ByteArray.mk #[(32 : UInt8)]) = some ((jaE 32 [] p).map mkB) := jk7 (mkB p) 32 (by rw [jaS]; exact hp)
 unfold y4 jb3
 rw [e0, jan]
 generalize jaE 32 [] p = ws at *
 by_cases h5 : ws.length = 5
 ·obtain ⟨w0, w1, w2, w3, w4, rfl⟩ : ∃ w0 w1 w2 w3 w4, ws = [w0, w1, w2, w3, w4] := by
   match ws, h5 with
   | [a, b, c, d, e], _ => exact ⟨a, b, c, d, e, rfl⟩
  have hl : ∀ x ∈ [w0, w1, w2, w3, w4], x.length ≤ 1000000 := fun x h => by have := hx x h; simp at this; omega
  have l0 := hl w0 (by simp)
  have l1 := hl w1 (by simp)
  have l2 := hl w2 (by simp)
  have l3 := hl w3 (by simp)
  have l4 := hl w4 (by simp)
  clear hx hl h5 e0
  rw [if_neg (by simp)]
  simp only [List.map_cons, List.map_nil, List.length_cons, List.length_nil, List.getD_cons_zero, List.getD_cons_succ]
  have c0 : ((0 : Int) ≤ 0 ∧ (0 : Int) < ((0 + 1 + 1 + 1 + 1 + 1 : Nat) : Int)) := by omega
  have c1 : ((0 : Int) ≤ 1 ∧ (1 : Int) < ((0 + 1 + 1 + 1 + 1 + 1 : Nat) : Int)) := by omega
  have c2 : ((0 : Int) ≤ 2 ∧ (2 : Int) < ((0 + 1 + 1 + 1 + 1 + 1 : Nat) : Int)) := by omega
  have c3 : ((0 : Int) ≤ 3 ∧ (3 : Int) < ((0 + 1 + 1 + 1 + 1 + 1 : Nat) : Int)) := by omega
  have c4 : ((0 : Int) ≤ 4 ∧ (4 : Int) < ((0 + 1 + 1 + 1 + 1 + 1 : Nat) : Int)) := by omega
  have d0 : (0 : Nat) < 0 + 1 + 1 + 1 + 1 + 1 := by omega
  have d1 : (1 : Nat) < 0 + 1 + 1 + 1 + 1 + 1 := by omega
  have d2 : (2 : Nat) < 0 + 1 + 1 + 1 + 1 + 1 := by omega
  have d3 : (3 : Nat) < 0 + 1 + 1 + 1 + 1 + 1 := by omega
  have d4 : (4 : Nat) < 0 + 1 + 1 + 1 + 1 + 1 := by omega
  simp only [if_pos c0, if_pos c1, if_pos c2, if_pos c3, if_pos c4, if_pos d0, if_pos d1, if_pos d2, if_pos d3, if_pos d4]
  have g0 : [mkB w0, mkB w1, mkB w2, mkB w3, mkB w4].getD 0 ByteArray.empty = mkB w0 := rfl
  have g1 : [mkB w0, mkB w1, mkB w2, mkB w3, mkB w4].getD 1 ByteArray.empty = mkB w1 := rfl
  have g2 : [mkB w0, mkB w1, mkB w2, mkB w3, mkB w4].getD 2 ByteArray.empty = mkB w2 := rfl
  have g3 : [mkB w0, mkB w1, mkB w2, mkB w3, mkB w4].getD 3 ByteArray.empty = mkB w3 := rfl
  have g4 : [mkB w0, mkB w1, mkB w2, mkB w3, mkB w4].getD 4 ByteArray.empty = mkB w4 := rfl
  simp only [g0, g1, g2, g3, g4, je4 w0 l0, je4 w1 l1, je4 w2 l2, je4 w3 l3, je4 w4 l4]
  cases n0 : jaK 6 w0 with
  | none => exact ⟨_, _, _, _, _, rfl, fun r h => by cases h⟩
  | some v0 =>
  cases n1 : jaK 6 w1 with
  | none => exact ⟨_, _, _, _, _, rfl, fun r h => by cases h⟩
  | some v1 =>
  cases n2 : jaK 6 w2 with
  | none => exact ⟨_, _, _, _, _, rfl, fun r h => by cases h⟩
  | some v2 =>
  cases n3 : jaK 6 w3 with
  | none => exact ⟨_, _, _, _, _, rfl, fun r h => by cases h⟩
  | some v3 =>
  cases n4 : jaK 6 w4 with
  | none => exact ⟨_, _, _, _, _, rfl, fun r h => by cases h⟩
  | some v4 =>
   refine ⟨_, _, _, _, _, rfl, fun r h => ?_⟩
   rw [jep n0, jep n1, jep n2, jep n3, jep n4]
   cases h
   rfl
 ·rw [if_pos (by simp; omega)]
  have hn : ∀ ws : List (List UInt8), ws.length ≠ 5 → (match ws with
   | [w0, w1, w2, w3, w4] => (jaK 6 w0).bind fun a => (jaK 6 w1).bind fun b => (jaK 6 w2).bind fun c => (jaK 6 w3).bind fun d => (jaK 6 w4).bind fun e => some [a, b, c, d, e]
   | _ => none) = none := fun ws h => by
   match ws, h with
   | [], _ => rfl
   | [_], _ => rfl
   | [_, _], _ => rfl
   | [_, _, _], _ => rfl
   | [_, _, _, _], _ => rfl
   | [_, _, _, _, _], h => exact absurd rfl h
   | _ :: _ :: _ :: _ :: _ :: _ :: _, _ => rfl
  rw [hn ws h5]
  exact ⟨0, 0, 0, 0, 0, rfl, fun r h => by cases h⟩
theorem je5 {X Y : Type} {body : X → Option (X ⊕ Y)} {n : Nat} {x x' : X} (h : body x = some (.inl x')) : jad body (n + 1) x = jad body n x' := by
 conv => lhs; unfold jad
 rw [h]
theorem jd7 {X Y : Type} {body : X → Option (X ⊕ Y)} {n : Nat} {x : X} {y : Y} (h : body x = some (.inr y)) : jad body (n + 1) x = some y := by
 unfold jad
 rw [h]
theorem jrs (w0 w1 w2 w3 w4 : List UInt8) (hl : ∀ x ∈ [w0, w1, w2, w3, w4], x.length ≤ 1000000) :
  jad (y12 [mkB w0, mkB w1, mkB w2, mkB w3, mkB w4]) big ((0 : Int), (0 : Int), (0 : Int), (0 : Int), (0 : Int), (0 : Int)) =
   some (match (jaK 6 w0).bind fun a => (jaK 6 w1).bind fun b => (jaK 6 w2).bind fun c => (jaK 6 w3).bind fun d => (jaK 6 w4).bind fun e => some (a, b, c, d, e) with | some t => .inr t | none => .inl ()) := by
 have nb : ∀ w ∈ [w0, w1, w2, w3, w4], y14 (mkB w) (6 : Int) = some (match jaK 6 w with | some v => (v, true) | none => (0, false)) := fun w hw => joA (mkB w) 6 (by omega) (by rw [jaS]; exact hl w hw)
 have b0 := nb w0 (by simp)
 have b1 := nb w1 (by simp)
 have b2 := nb w2 (by simp)
 have b3 := nb w3 (by simp)
 have b4 := nb w4 (by simp)
 have s0 : ∀ a b c d e : Int, y12 [mkB w0, mkB w1, mkB w2, mkB w3, mkB w4] ((0 : Int), a, b, c, d, e) = (y14 (mkB w0) 6).bind fun r2 => if (!r2.2) = true then some (.inr (.inl ())) else some (.inl ((1 : Int), r2.1, b, c, d, e)) := fun a b c d e => by kernel_rfl
 have s1 : ∀ a b c d e : Int, y12 [mkB w0, mkB w1, mkB w2, mkB w3, mkB w4] ((1 : Int), a, b, c, d, e) = (y14 (mkB w1) 6).bind fun r2 => if (!r2.2) = true then some (.inr (.inl ())) else some (.inl ((2 : Int), a, r2.1, c, d, e)) := fun a b c d e => by kernel_rfl
 have s2 : ∀ a b c d e : Int, y12 [mkB w0, mkB w1, mkB w2, mkB w3, mkB w4] ((2 : Int), a, b, c, d, e) = (y14 (mkB w2) 6).bind fun r2 => if (!r2.2) = true then some (.inr (.inl ())) else some (.inl ((3 : Int), a, b, r2.1, d, e)) := fun a b c d e => by kernel_rfl
 have s3 : ∀ a b c d e : Int, y12 [mkB w0, mkB w1, mkB w2, mkB w3, mkB w4] ((3 : Int), a, b, c, d, e) = (y14 (mkB w3) 6).bind fun r2 => if (!r2.2) = true then some (.inr (.inl ())) else some (.inl ((4 : Int), a, b, c, r2.1, e)) := fun a b c d e => by kernel_rfl
 have s4 : ∀ a b c d e : Int, y12 [mkB w0, mkB w1, mkB w2, mkB w3, mkB w4] ((4 : Int), a, b, c, d, e) = (y14 (mkB w4) 6).bind fun r2 => if (!r2.2) = true then some (.inr (.inl ())) else some (.inl ((5 : Int), a, b, c, d, r2.1)) := fun a b c d e => by kernel_rfl
 have s5 : ∀ a b c d e : Int, y12 [mkB w0, mkB w1, mkB w2, mkB w3, mkB w4] ((5 : Int), a, b, c, d, e) = some (.inr (.inr (a, b, c, d, e))) := fun a b c d e => by kernel_rfl
 rw [show big = 18446744073709551610 + 1 + 1 + 1 + 1 + 1 + 1 from rfl]
 cases n0 : jaK 6 w0 with
 | none => rw [jd7 (by rw [s0, b0, n0]; rfl)]; rfl
 | some v0 =>
 rw [je5 (by rw [s0, b0, n0]; rfl)]
 cases n1 : jaK 6 w1 with
 | none => rw [jd7 (by rw [s1, b1, n1]; rfl)]; rfl
 | some v1 =>
 rw [je5 (by rw [s1, b1, n1]; rfl)]
 cases n2 : jaK 6 w2 with
 | none => rw [jd7 (by rw [s2, b2, n2]; rfl)]; rfl
 | some v2 =>
 rw [je5 (by rw [s2, b2, n2]; rfl)]
 cases n3 : jaK 6 w3 with
 | none => rw [jd7 (by rw [s3, b3, n3]; rfl)]; rfl
 | some v3 =>
 rw [je5 (by rw [s3, b3, n3]; rfl)]
 cases n4 : jaK 6 w4 with
 | none => rw [jd7 (by rw [s4, b4, n4]; rfl)]; rfl
 | some v4 =>
 rw [je5 (by rw [s4, b4, n4]; rfl), jd7 (s5 _ _ _ _ _)]
 rfl
theorem jk9 {p : List UInt8} {w0 w1 w2 w3 w4 : List UInt8} (h : jaE 32 [] p = [w0, w1, w2, w3, w4]) : jb3 p = (jaK 6 w0).bind fun a => (jaK 6 w1).bind fun b => (jaK 6 w2).bind fun c => (jaK 6 w3).bind fun d => (jaK 6 w4).bind fun e => some [a, b, c, d, e] := by
 unfold jb3
 rw [h]
theorem jqF {p : List UInt8} (h : (jaE 32 [] p).length ≠ 5) : jb3 p = none := by
 unfold jb3
 generalize jaE 32 [] p = ws at *
 match ws, h with
 | [], _ => rfl
 | [_], _ => rfl
 | [_, _], _ => rfl
 | [_, _, _], _ => rfl
 | [_, _, _, _], _ => rfl
 | [_, _, _, _, _], h => exact absurd rfl h
 | _ :: _ :: _ :: _ :: _ :: _ :: _, _ => rfl
theorem jqG (P : List (List UInt8)) (i : Nat) (rows : List (List Int)) (hi : i < P.length) (hP : P.length ≤ 1000000) (hx : ∀ p ∈ P, p.length ≤ 1000000) (hr : rows.length ≤ 1000000) :
  y13 (P.map mkB) ((i : Int), rows) = some (match jb3 (P.getD i []) with | none => .inr (.inl ()) | some r => .inl (((i + 1 : Nat) : Int), rows ++ [r])) := by
 have hg : (P.map mkB).getD i ByteArray.empty = mkB (P.getD i []) := by simp [List.getD, hi]
 have hpi : (P.getD i []).length ≤ 1000000 := hx _ (by rw [List.getD_eq_getElem?_getD, List.getElem?_eq_getElem hi]; exact List.getElem_mem hi)
 generalize P.getD i [] = p at *
 have hlen : (P.map mkB).length = P.length := by simp
 unfold y13
 dsimp only
 rw [if_pos (by omega), if_pos (by omega), if_pos (by omega), Int.toNat_natCast, hg]
 have hc := jnx (mkB p) 32 (by rw [jaS]; exact hpi)
 rw [jd4] at hc
 rw [show (32 : Int) = (((32 : UInt8).toNat : Nat) : Int) from rfl, hc, jan]
 have hxs := jd6 32 p []
 by_cases h5 : (jaE 32 [] p).length = 5
 ·rw [if_neg (by simp [h5])]
  obtain ⟨w0, w1, w2, w3, w4, e⟩ : ∃ w0 w1 w2 w3 w4, jaE 32 [] p = [w0, w1, w2, w3, w4] := by
   generalize jaE 32 [] p = ws at h5
   match ws, h5 with
   | [a, b, c, d, e], _ => exact ⟨a, b, c, d, e, rfl⟩
  have hl : ∀ x ∈ [w0, w1, w2, w3, w4], x.length ≤ 1000000 := fun x h => by
   have := hxs x (by rw [e]; exact h)
   simp at this; omega
  rw [jk9 e, e]
  simp only [List.map_cons, List.map_nil]
  rw [jrs w0 w1 w2 w3 w4 hl, jan]
  cases n0 : jaK 6 w0 with
  | none => rfl
  | some v0 =>
  cases n1 : jaK 6 w1 with
  | none => rfl
  | some v1 =>
  cases n2 : jaK 6 w2 with
  | none => rfl
  | some v2 =>
  cases n3 : jaK 6 w3 with
  | none => rfl
  | some v3 =>
  cases n4 : jaK 6 w4 with
  | none => rfl
  | some v4 =>
   show y42 ((i : Int), rows) (v0, v1, v2, v3, v4) = _
   unfold y42
   dsimp only
   rw [if_pos (by simp only [List.length_cons, List.length_nil]; omega), jcq (by omega)]
   rfl
 ·rw [if_pos (by simp; omega), jqF h5]
theorem jpz (P : List (List UInt8)) (i : Nat) (rows : List (List Int)) (hi : i < P.length) (hP : P.length ≤ 1000000) (hx : ∀ p ∈ P, p.length ≤ 1000000) (hr : rows.length ≤ 1000000) :
  y23 (P.map mkB) ((i : Int), rows) = some (match jb3 (P.getD i []) with | none => .inr (.inl ()) | some r => .inl (((i + 1 : Nat) : Int), rows ++ [r])) := by
 have hg : (P.map mkB).getD i ByteArray.empty = mkB (P.getD i []) := by simp [List.getD, hi]
 have hpi : (P.getD i []).length ≤ 1000000 := hx _ (by rw [List.getD_eq_getElem?_getD, List.getElem?_eq_getElem hi]; exact List.getElem_mem hi)
 generalize P.getD i [] = p at *
 have hlen : (P.map mkB).length = P.length := by simp
 unfold y23
 dsimp only
 rw [if_pos (by omega), if_pos (by omega), if_pos (by omega), Int.toNat_natCast, hg]
 obtain ⟨a, b, c, d, e, h1, h2⟩ := jqE p hpi
 rw [h1, jan]
 cases hs : jb3 p with
 | none => rfl
 | some r =>
  have := h2 r hs
  subst this
  dsimp only [Option.isSome_some]
  rw [if_neg (by simp), if_pos (by simp only [List.length_cons, List.length_nil]; omega), jcq (by omega)]
  rfl
end Go.Sh
end

section
namespace Go.Sh
open Go Go.Proofs Go.RowKit Go.Sx Go.Sx06 Go.Lib
open Go.Sx06u (ja6 ja8)
def jdl (p : List UInt8) : List Int := (jb3 p).getD []
def jeq (l : List UInt8) : List (List Int) × Int :=
 if l = [] then ([], 0)
 else if (jaE 59 [] l).all (fun p => (jb3 p).isSome) = true then
  if chkE ((jaE 59 [] l).map jdl) ≠ 0 then ([], chkE ((jaE 59 [] l).map jdl)) else ((jaE 59 [] l).map jdl, 0)
 else ([], 7)
theorem jkg {body : Int × List (List Int) → Option ((Int × List (List Int)) ⊕ (Unit ⊕ (List (List Int))))} (P : List (List UInt8)) (hP : P.length ≤ 1000000)
  (hb : ∀ i rows, i < P.length → rows.length ≤ 1000000 → body ((i : Int), rows) = some (match jb3 (P.getD i []) with | none => .inr (.inl ()) | some r => .inl (((i + 1 : Nat) : Int), rows ++ [r])))
  (he : ∀ rows, body ((P.length : Int), rows) = some (.inr (.inr rows))) :
  jad body big ((0 : Int), []) = some (if P.all (fun p => (jb3 p).isSome) = true then .inr (P.map jdl) else .inl ()) := by
 have jbS : ∀ i, i < P.length → (jb3 (P.getD i [])).isSome = true → body ((i : Int), (P.take i).map jdl) = some (.inl (((i + 1 : Nat) : Int), (P.take (i + 1)).map jdl)) := fun i hi hs => by
  rw [hb i _ hi (by rw [List.length_map, List.length_take]; omega)]
  obtain ⟨r, hr⟩ := Option.isSome_iff_exists.1 hs
  rw [hr, List.take_succ_eq_append_getElem hi, List.map_append]
  have : jdl P[i] = r := by
   unfold jdl
   rw [List.getD_eq_getElem?_getD, List.getElem?_eq_getElem hi] at hr
   have hr' : jb3 P[i] = some r := hr
   rw [hr']
   rfl
  simp [this]
 cases hf : P.findIdx? (fun p => !(jb3 p).isSome) with
 | none =>
  rw [List.findIdx?_eq_none_iff] at hf
  rw [if_pos (List.all_eq_true.2 fun p hp => by simpa using hf p hp)]
  refine jbP (fun i => ((i : Int), (P.take i).map jdl)) (k := P.length) (fun i hi => ?_) ?_ (by omega)
  ·refine jbS i hi ?_
   rw [List.getD_eq_getElem?_getD, List.getElem?_eq_getElem hi]
   simpa using hf P[i] (List.getElem_mem hi)
  ·rw [he, List.take_length]
 | some k =>
  rw [List.findIdx?_eq_some_iff_getElem] at hf
  obtain ⟨hk, hp, hbef⟩ := hf
  rw [if_neg (fun h => by have := List.all_eq_true.1 h _ (List.getElem_mem hk); rw [this] at hp; cases hp)]
  refine jbP (fun i => ((i : Int), (P.take i).map jdl)) (k := k) (fun i hi => ?_) ?_ (by omega)
  ·refine jbS i (by omega) ?_
   rw [List.getD_eq_getElem?_getD, List.getElem?_eq_getElem (by omega)]
   exact Option.isSome_iff_ne_none.2 (by simpa using hbef i hi)
  ·rw [hb k _ hk (by rw [List.length_map, List.length_take]; omega), List.getD_eq_getElem?_getD, List.getElem?_eq_getElem hk]
   have : jb3 P[k] = none := by simpa using hp
   show some (match jb3 P[k] with | none => _ | some r => _) = _
   rw [this]
theorem jny (s : ByteArray) : (s == ByteArray.mk #[]) = decide (s.data.toList = []) := by
 rw [jke]
 obtain ⟨⟨l⟩⟩ := s
 by_cases h : l = []
 ·subst h; rfl
 ·rw [decide_eq_false (fun e => h (by cases e; rfl)), decide_eq_false (by simpa using h)]
theorem jla (s : ByteArray) (hs : s.size ≤ 100000) : y22 s = some (jeq s.data.toList) := by
 have hl := size_eq s
 unfold y22 jeq
 rw [jny]
 by_cases h0 : s.data.toList = []
 ·rw [decide_eq_true h0, if_pos rfl, if_pos h0]
 ·rw [decide_eq_false h0, if_neg Bool.false_ne_true, if_neg h0]
  have e0 : strings_Split s (ByteArray.mk #[(59 : UInt8)]) = some ((jaE 59 [] s.data.toList).map mkB) := jk7 s 59 (by omega)
  have hn := je3 59 s.data.toList []
  have hx := jd6 59 s.data.toList []
  rw [e0, jan]
  generalize jaE 59 [] s.data.toList = P at *
  have hx' : ∀ p ∈ P, p.length ≤ 1000000 := fun p hp => by have := hx p hp; simp at this; omega
  rw [jkg P (by omega) (fun i rows hi hr => jpz P i rows hi (by omega) hx' hr) (fun rows => by unfold y23; rw [if_neg (by simp)]), jan]
  unfold y29
  by_cases ha : P.all (fun p => (jb3 p).isSome) = true
  ·rw [if_pos ha, if_pos ha]
   show y49 _ = _
   unfold y49
   rw [if_pos (by rw [List.length_map]; omega)]
   by_cases hc : chkE (P.map jdl) = 0
   ·rw [if_neg (by simp [hc]), if_neg (by simp [hc])]
   ·rw [if_pos (by simpa using hc), if_pos hc]
  ·rw [if_neg ha, if_neg ha]
   rfl
theorem jpA (s : ByteArray) (hs : s.size ≤ 100000) : y25 s = some (jeq s.data.toList) := by
 have hl := size_eq s
 unfold y25 jeq
 rw [jny]
 by_cases h0 : s.data.toList = []
 ·rw [decide_eq_true h0, if_pos rfl, if_pos h0]
 ·rw [decide_eq_false h0, if_neg Bool.false_ne_true, if_neg h0]
  have e0 : jak s (59 : Int) = some ((jaE 59 [] s.data.toList).map mkB) := jnx s 59 (by omega)
  have hn := je3 59 s.data.toList []
  have hx := jd6 59 s.data.toList []
  rw [e0, jan]
  generalize jaE 59 [] s.data.toList = P at *
  have hx' : ∀ p ∈ P, p.length ≤ 1000000 := fun p hp => by have := hx p hp; simp at this; omega
  rw [jkg P (by omega) (fun i rows hi hr => jqG P i rows hi (by omega) hx' hr) (fun rows => by unfold y13; rw [if_neg (by simp)]), jan]
  unfold y16
  by_cases ha : P.all (fun p => (jb3 p).isSome) = true
  ·rw [if_pos ha, if_pos ha]
   show y43 _ = _
   unfold y43
   rw [jfs (by rw [List.length_map]; omega), jan]
   by_cases hc : chkE (P.map jdl) = 0
   ·rw [if_neg (by simp [hc]), if_neg (by simp [hc])]
   ·rw [if_pos (by simpa using hc), if_pos hc]
  ·rw [if_neg ha, if_neg ha]
   rfl
theorem jnz {a b : List (List Int)} (hl : a.length = b.length) (hn : a.length ≤ 1000000) (h : ∀ i, i < a.length → ∀ j, j < 5 → (a.getD i []).getD j 0 = (b.getD i []).getD j 0) : y44 a b = some true := by
 unfold y44
 rw [if_neg (by simp [hl])]
 have : jad (y36 a b) big (0 : Int) = some (.inr ()) := by
  refine jbP (fun i => (i : Int)) (k := a.length) (fun i hi => ?_) ?_ (by omega)
  ·have h0 := h i hi 0 (by omega)
   have h1 := h i hi 1 (by omega)
   have h2 := h i hi 2 (by omega)
   have h3 := h i hi 3 (by omega)
   have h4 := h i hi 4 (by omega)
   unfold y36
   rw [if_pos (by omega), if_pos (by omega), if_pos (by omega), if_pos (by omega), if_pos (by omega), Int.toNat_natCast, if_neg, jcq (by omega)]
   ·rfl
   ·rw [h0, h1, h2, h3, h4]
    simp
  ·unfold y36
   rw [if_neg (by omega)]
 rw [this]
 rfl
end Go.Sh
end

section
namespace Go.Sh
open Go Go.Proofs Go.RowKit Go.Sx Go.Sx06 Go.Lib
open Go.Sx06u (ja6 ja8)
theorem jlq (sep : List UInt8) (xs : List (List UInt8)) (y : List UInt8) : joinTail sep (xs ++ [y]) = joinTail sep xs ++ sep ++ y := by
 simp [joinTail, List.append_assoc]
theorem jpB (sep : List UInt8) (x : List UInt8) (xs : List (List UInt8)) (y : List UInt8) : join (x :: xs ++ [y]) sep = join (x :: xs) sep ++ sep ++ y := by
 rw [List.cons_append, join_cons, join_cons, jlq]
 simp [List.append_assoc]
theorem jlb (sep : List UInt8) (l : List (List UInt8)) (y : List UInt8) (h : l ≠ []) : join (l ++ [y]) sep = join l sep ++ sep ++ y := by
 cases l with
 | nil => exact absurd rfl h
 | cons x r => exact jpB sep x r y
def jef (c : List (List Int)) (k : Nat) : List UInt8 := join ((jaU c k).map (·.data.toList)) [59]
def jda (r : List Int) (k : Nat) : List UInt8 := join ((jbk r k).map (·.data.toList)) [32]
theorem jkh (r : List Int) : jda r 0 = [] := rfl
theorem joB (c : List (List Int)) : jef c 0 = [] := rfl
theorem jpC (r : List Int) : jda r 1 = itoa (r.getD 0 0) := by
 unfold jda
 rw [jkb]
 exact join_one _ _
theorem jpD (c : List (List Int)) : jef c 1 = (jb2 (c.getD 0 [])).data.toList := by
 unfold jef
 rw [jgL]
 exact join_one _ _
theorem joC (r : List Int) {k : Nat} (h : 0 < k) : jda r (k + 1) = jda r k ++ [32] ++ itoa (r.getD k 0) := by
 unfold jda
 rw [jkb, List.map_append]
 refine jlb _ _ _ (fun e => ?_)
 have := congrArg List.length e
 rw [List.length_map, jfq] at this
 simp at this
 omega
theorem joD (c : List (List Int)) {k : Nat} (h : 0 < k) : jef c (k + 1) = jef c k ++ [59] ++ (jb2 (c.getD k [])).data.toList := by
 unfold jef
 rw [jgL, List.map_append]
 refine jlb _ _ _ (fun e => ?_)
 have := congrArg List.length e
 rw [List.length_map, jfr] at this
 simp at this
 omega
theorem jpE {r : List Int} (h : jcu r = true) {k : Nat} (hk : k ≤ 5) : (jda r k).length ≤ 110 := by
 have := jgK ((jbk r k).map (·.data.toList)) 32 21 (fun x hx => by
  simp only [jbk, List.map_map, List.mem_map, List.mem_range] at hx
  obtain ⟨j, hj, rfl⟩ := hx
  have hb := jd1 h (show j < 5 by omega)
  exact Lib.itoa_length_le _ hb.1 hb.2)
 rw [List.length_map, jfq] at this
 unfold jda
 omega
theorem jlc {c : List (List Int)} (h : ∀ r ∈ c, jcu r = true) {k : Nat} (hk : k ≤ c.length) : (jef c k).length ≤ 111 * k := by
 have := jgK ((jaU c k).map (·.data.toList)) 59 110 (fun x hx => by
  simp only [jaU, List.map_map, List.mem_map, List.mem_range] at hx
  obtain ⟨j, hj, rfl⟩ := hx
  refine jmv (h _ ?_)
  rw [List.getD_eq_getElem?_getD, List.getElem?_eq_getElem (by omega)]
  exact List.getElem_mem (by omega))
 rw [List.length_map, jfr] at this
 exact this
theorem mkB1 (x : UInt8) : ByteArray.mk #[x] = mkB [x] := rfl
theorem jmx (c : List (List Int)) (i : Nat) (x0 : ByteArray) (t : List UInt8) (ht : t.length ≤ 1000000) (hr : jcu (c.getD i []) = true) :
  jad (y8 c (x0, (i : Int))) big (mkB t, (0 : Int)) = some (mkB (t ++ jda (c.getD i []) 5)) := by
 have start : mkB t = mkB (t ++ jda (c.getD i []) 0) := by rw [jkh, List.append_nil]
 rw [start]
 refine jbP (fun k => (mkB (t ++ jda (c.getD i []) k), (k : Int))) (k := 5) (fun k hk => ?_) ?_ (by omega)
 ·unfold y8
  dsimp only
  rw [Int.toNat_natCast, Int.toNat_natCast]
  generalize c.getD i [] = r at *
  have hg : List.getD [r.getD 0 0, r.getD 1 0, r.getD 2 0, r.getD 3 0, r.getD 4 0] k 0 = r.getD k 0 := by
   match k, hk with
   | 0, _ => rfl
   | 1, _ => rfl
   | 2, _ => rfl
   | 3, _ => rfl
   | 4, _ => rfl
  have hd := jnb (jd1 hr hk)
  have hl1 := jpE hr (show k ≤ 5 by omega)
  have hl2 := Lib.itoa_length_le _ (jd1 hr hk).1 (jd1 hr hk).2
  simp only [List.length_cons, List.length_nil]
  rw [hg, hd, mkB1]
  by_cases h0 : k = 0
  ·subst h0
   rw [if_pos (by omega), if_neg (by omega), if_pos (by omega), if_pos (by omega), jan, if_pos (by rw [jaS, jaS, List.length_append]; omega), jd5, jcq (by omega), jkh, jpC, List.append_nil]
   rfl
  ·rw [if_pos (by omega), if_pos (by omega), if_pos (by rw [jaS, jaS, List.length_append]; simp; omega), if_pos (by omega), if_pos (by omega), jan, jd5,
    if_pos (by rw [jaS, jaS, List.length_append, List.length_append]; simp only [List.length_cons, List.length_nil]; omega), jd5, jcq (by omega), joC r (show 0 < k by omega)]
   simp only [List.append_assoc]
   rfl
 ·unfold y8
  dsimp only
  rw [if_neg (by simp)]
theorem joE (c : List (List Int)) (hl : c.length ≤ 1000) (h : ∀ r ∈ c, jcu r = true) : y26 c = some (jdk c) := by
 have hmem : ∀ i, i < c.length → jcu (c.getD i []) = true := fun i hi => h _ (by rw [List.getD_eq_getElem?_getD, List.getElem?_eq_getElem hi]; exact List.getElem_mem hi)
 have hs : ∀ r, jb2 r = mkB (jda r 5) := fun r => rfl
 unfold y26
 have e : jad (y3 c) big (ByteArray.mk #[], (0 : Int)) = some (mkB (jef c c.length)) := by
  refine jbP (fun i => (mkB (jef c i), (i : Int))) (k := c.length) (fun i hi => ?_) ?_ (by omega)
  ·have hlen := jlc h (show i ≤ c.length by omega)
   unfold y3
   dsimp only
   rw [if_pos (by omega)]
   by_cases h0 : i = 0
   ·subst h0
    rw [if_neg (by omega), if_pos (by omega), if_pos (by omega), if_pos (by omega), if_pos (by omega), if_pos (by omega), if_pos (by omega), if_pos (by omega), if_pos (by omega), if_pos (by omega), if_pos (by omega),
     jmx c 0 _ _ (by omega) (hmem 0 hi), jan]
    unfold y9
    dsimp only
    rw [jcq (by omega), joB, jpD, hs, jd4, List.nil_append]
    rfl
   ·rw [if_pos (by omega), if_pos (by rw [mkB1, jaS, jaS]; simp; omega), if_pos (by omega), if_pos (by omega), if_pos (by omega), if_pos (by omega), if_pos (by omega), if_pos (by omega), if_pos (by omega), if_pos (by omega), if_pos (by omega), if_pos (by omega), mkB1, jd5,
     jmx c i _ _ (by simp; omega) (hmem i hi), jan]
    unfold y9
    dsimp only
    rw [jcq (by omega), joD c (show 0 < i by omega), hs, jd4]
    rfl
  ·unfold y3
   dsimp only
   rw [if_neg (by omega)]
 rw [e]
 rfl
end Go.Sh
end

section
namespace Go.Sh
open Go Go.Proofs Go.RowKit Go.Sx Go.Sx06 Go.Lib
open Go.Sx06u (ja6 ja8)
theorem jhU (c : UInt8) : ∀ (x pre rest : List UInt8), c ∉ x → jaE c pre (x ++ rest) = jaE c (pre ++ x) rest
 | [], pre, rest, _ => by simp
 | y :: x, pre, rest, h => by
  have hy : ¬ y = c := fun e => h (by simp [e])
  have ih := jhU c x (pre ++ [y]) rest (fun hm => h (List.mem_cons_of_mem _ hm))
  rw [List.cons_append]
  conv => lhs; unfold jaE
  rw [if_neg hy, ih]
  simp
theorem jld (c : UInt8) : ∀ (xs : List (List UInt8)) (pre : List UInt8), (∀ x ∈ xs, c ∉ x) → jaE c pre (joinTail [c] xs) = pre :: xs
 | [], pre, _ => rfl
 | y :: r, pre, h => by
  have e : joinTail [c] (y :: r) = c :: (y ++ joinTail [c] r) := by simp [joinTail]
  rw [e]
  conv => lhs; unfold jaE
  rw [if_pos rfl, jhU c y [] _ (h y List.mem_cons_self), List.nil_append, jld c r y (fun x hx => h x (List.mem_cons_of_mem _ hx))]
theorem jmy {c : UInt8} {xs : List (List UInt8)} (hne : xs ≠ []) (h : ∀ x ∈ xs, c ∉ x) : jaE c [] (join xs [c]) = xs := by
 cases xs with
 | nil => exact absurd rfl hne
 | cons x r => rw [join_cons, jhU c x [] _ (h x List.mem_cons_self), List.nil_append, jld c r x (fun y hy => h y (List.mem_cons_of_mem _ hy))]
theorem jqI {c x : UInt8} {xs : List (List UInt8)} (h : x ∈ join xs [c]) : x = c ∨ ∃ y ∈ xs, x ∈ y := by
 cases xs with
 | nil => cases h
 | cons z r =>
  rw [join_cons, List.mem_append] at h
  rcases h with h | h
  ·exact .inr ⟨z, List.mem_cons_self, h⟩
  ·simp only [joinTail, List.mem_flatten, List.mem_map] at h
   obtain ⟨l, ⟨y, hy, rfl⟩, hx⟩ := h
   rcases List.mem_append.1 hx with hx | hx
   ·exact .inl (by simpa using hx)
   ·exact .inr ⟨y, List.mem_cons_of_mem _ hy, hx⟩
theorem jpF {u : Nat} {x : UInt8} (h : x ∈ decDigits u) : 48 ≤ x.toNat ∧ x.toNat ≤ 57 := jbR.1 (List.all_eq_true.1 (jhX u) x h)
theorem jqJ {n : Int} {x : UInt8} (h : x ∈ itoa n) : x = 45 ∨ (48 ≤ x.toNat ∧ x.toNat ≤ 57) := by
 unfold itoa at h
 split at h
 ·rcases List.mem_cons.1 h with h | h
  ·exact .inl h
  ·exact .inr (jpF h)
 ·exact .inr (jpF h)
theorem jnA {n : Int} {c : UInt8} (h1 : c ≠ 45) (h2 : ¬ (48 ≤ c.toNat ∧ c.toNat ≤ 57)) : c ∉ itoa n := fun h => (jqJ h).elim h1 h2
theorem jmz : ∀ (k u : Nat), 0 < k → u < 10 ^ k → (decDigits u).length ≤ k
 | 0, _, h, _ => absurd h (by omega)
 | 1, u, _, h => by rw [jbG (by omega)]; simp
 | k + 2, u, _, h => by
  by_cases hu : u < 10
  ·rw [jbG hu]; simp
  ·have e : 10 ^ (k + 2) = 10 ^ (k + 1) * 10 := rfl
   have := jmz (k + 1) (u / 10) (by omega) (by omega)
   rw [jeg hu, List.length_append]
   simp
   omega
theorem jer {n : Int} (h : -32768 ≤ n ∧ n ≤ 32768) : jaK 6 (itoa n) = some n := by
 refine jqQ ?_
 have h6 : (10 : Nat) ^ 6 = 1000000 := by decide
 unfold itoa
 split
 ·have := jmz 6 n.natAbs (by omega) (by omega)
  rw [jhY]
  exact this
 ·have := jmz 6 n.toNat (by omega) (by omega)
  rw [jhY]
  unfold behind
  split
  ·rw [List.length_tail]; omega
  ·exact this
theorem jmA (r : List Int) : jaE 32 [] (jb2 r).data.toList = [itoa (r.getD 0 0), itoa (r.getD 1 0), itoa (r.getD 2 0), itoa (r.getD 3 0), itoa (r.getD 4 0)] := by
 have e : (jb2 r).data.toList = join [itoa (r.getD 0 0), itoa (r.getD 1 0), itoa (r.getD 2 0), itoa (r.getD 3 0), itoa (r.getD 4 0)] [32] := rfl
 rw [e]
 refine jmy (by simp) (fun x hx => ?_)
 simp only [List.mem_cons, List.not_mem_nil, or_false] at hx
 rcases hx with rfl | rfl | rfl | rfl | rfl <;> exact jnA (by decide) (by decide)
theorem jrt (r : List Int) : (59 : UInt8) ∉ (jb2 r).data.toList := by
 have e : (jb2 r).data.toList = join [itoa (r.getD 0 0), itoa (r.getD 1 0), itoa (r.getD 2 0), itoa (r.getD 3 0), itoa (r.getD 4 0)] [32] := rfl
 rw [e]
 intro h
 rcases jqI h with h | ⟨x, hx, h⟩
 ·exact absurd h (by decide)
 ·simp only [List.mem_cons, List.not_mem_nil, or_false] at hx
  rcases hx with rfl | rfl | rfl | rfl | rfl <;> exact jnA (by decide) (by decide) h
theorem jle {r : List Int} (h : jbb r = 0) : jb3 (jb2 r).data.toList = some [r.getD 0 0, r.getD 1 0, r.getD 2 0, r.getD 3 0, r.getD 4 0] := by
 have hp : [r.getD 0 0, r.getD 1 0, r.getD 2 0, r.getD 3 0, r.getD 4 0].all ja6 = true := by
  unfold jbb ja8 at h
  split at h
  ·rename_i hh; exact hh
  ·cases h
 have hb : ∀ x ∈ [r.getD 0 0, r.getD 1 0, r.getD 2 0, r.getD 3 0, r.getD 4 0], -32768 ≤ x ∧ x ≤ 32768 := fun x hx => by
  have := List.all_eq_true.1 hp x hx
  simpa [ja6] using this
 rw [jk9 (jmA r), jer (hb (r.getD 0 0) (by simp)), jer (hb (r.getD 1 0) (by simp)), jer (hb (r.getD 2 0) (by simp)), jer (hb (r.getD 3 0) (by simp)), jer (hb (r.getD 4 0) (by simp))]
 rfl
theorem jpG {c : List (List Int)} (hl : c.length ≤ 6) (h : ∀ r ∈ c, jbb r = 0) : chkE c = 0 := by
 unfold chkE
 rw [if_neg (by omega)]
 have : c.findIdx? (fun r => jbb r != 0) = none := List.findIdx?_eq_none_iff.2 fun r hr => by simp [h r hr]
 rw [this]
def jmB (r : List Int) : List Int := [r.getD 0 0, r.getD 1 0, r.getD 2 0, r.getD 3 0, r.getD 4 0]
theorem jru {c : List (List Int)} (h : chkE c = 0) : jeq (jdk c).data.toList = (c.map jmB, 0) := by
 obtain ⟨h6, hc⟩ := jic h
 have e : (jdk c).data.toList = join ((jaU c c.length).map (·.data.toList)) [59] := rfl
 have hP : (jaU c c.length).map (·.data.toList) = c.map fun r => (jb2 r).data.toList := by
  unfold jaU
  rw [List.map_map]
  refine List.ext_getElem (by simp) (fun i h1 h2 => ?_)
  simp only [List.getElem_map, List.getElem_range, Function.comp]
  rw [List.getD_eq_getElem?_getD, List.getElem?_eq_getElem (by simpa using h2)]
  rfl
 rw [e, hP]
 unfold jeq
 by_cases hne : c = []
 ·subst hne
  rfl
 ·have hcut : jaE 59 [] (join (c.map fun r => (jb2 r).data.toList) [59]) = c.map fun r => (jb2 r).data.toList := jmy (by simpa using hne) (fun x hx => by
   obtain ⟨r, _, rfl⟩ := List.mem_map.1 hx
   exact jrt r)
  have hjne : ¬ join (c.map fun r => (jb2 r).data.toList) [59] = [] := fun e0 => by
   rw [e0] at hcut
   have hl : (jaE 59 [] []).length = c.length := by rw [hcut, List.length_map]
   cases c with
   | nil => exact hne rfl
   | cons r q =>
    have h1 : (jb2 r).data.toList = [] := by
     have : jaE 59 [] [] = [[]] := rfl
     rw [this, List.map_cons] at hcut
     exact (List.cons.inj hcut).1.symm
    have h2 := jmA r
    rw [h1] at h2
    have h3 := congrArg List.length h2
    have h4 : (jaE 32 [] ([] : List UInt8)).length = 1 := rfl
    rw [h4] at h3
    cases h3
  rw [if_neg hjne, hcut, if_pos (List.all_eq_true.2 fun x hx => by
   obtain ⟨r, hr, rfl⟩ := List.mem_map.1 hx
   rw [jle (hc r hr)]
   rfl)]
  have hrows : (c.map fun r => (jb2 r).data.toList).map jdl = c.map jmB := by
   rw [List.map_map]
   refine List.map_congr_left fun r hr => ?_
   show jdl (jb2 r).data.toList = _
   unfold jdl
   rw [jle (hc r hr)]
   rfl
  rw [hrows, if_neg]
  rw [Decidable.not_not]
  refine jpG (by simpa using h6) (fun x hx => ?_)
  obtain ⟨r, hr, rfl⟩ := List.mem_map.1 hx
  exact hc r hr
theorem joF (l : List UInt8) : (jeq l).1.length ≤ l.length + 1 := by
 have hn := je3 59 l []
 unfold jeq
 split
 ·simp
 ·split
  ·split
   ·simp
   ·simpa using hn
  ·simp
theorem ji5 (c : List (List Int)) (s : ByteArray) (hc : ∀ r ∈ c, r.length = 5 ∧ ∀ x ∈ r, inI x) : jbF c s = some true := by
 unfold jbF
 rw [jrV, jan]
 by_cases h8 : (c.length : Int) ≤ 8
 ·rw [decide_eq_true h8, if_neg (by simp)]
  by_cases hs : (s.size : Int) > 200
  ·rw [if_pos hs]
  ·rw [if_neg hs, jrr (by omega), jan]
   have h6 : ∀ r ∈ c, jcu r = true := fun r hr => by
    obtain ⟨h5, hx⟩ := hc r hr
    refine List.all_eq_true.2 fun j hj => ?_
    have hj := List.mem_range.1 hj
    have := hx (r.getD j 0) (by rw [List.getD_eq_getElem?_getD, List.getElem?_eq_getElem (by omega)]; exact List.getElem_mem (by omega))
    simpa [inI] using this
   have hF : jaY c = some (jdk c) := by
    unfold jaY
    rw [if_pos ⟨by omega, List.all_eq_true.2 h6⟩]
   have hlen := jlc h6 (Nat.le_refl c.length)
   have hsz : (jdk c).size ≤ 100000 := by
    rw [size_eq]
    show (jef c c.length).length ≤ _
    omega
   rw [hF, jan, jla s (by omega), jan, jpA s (by omega), jan, joE c (by omega) h6, jan, if_neg (by simp [jke, bne]), if_neg (by simp)]
   have hpl := joF s.data.toList
   have hsl := size_eq s
   rw [jnz rfl (by omega) (fun _ _ _ _ => rfl), jan, if_neg (by simp), jla _ hsz, jan, jfs (by omega), jan]
   dsimp only
   by_cases hk : chkE c = 0
   ·rw [if_neg (by simp [hk]), jru hk, if_pos (by simp)]
    rw [jnz (by simp) (by simp; omega) (fun i hi j hj => ?_), jan]
    rw [List.length_map] at hi
    have e1 : (c.map jmB).getD i [] = jmB c[i] := by rw [List.getD_eq_getElem?_getD, List.getElem?_map, List.getElem?_eq_getElem hi]; rfl
    have e2 : c.getD i [] = c[i] := by rw [List.getD_eq_getElem?_getD, List.getElem?_eq_getElem hi]; rfl
    show ((c.map jmB).getD i []).getD j 0 = _
    rw [e1, e2]
    exact jow c[i] hj
   ·rw [if_pos (by simpa using hk)]
 ·rw [decide_eq_false h8, if_pos (by simp)]
end Go.Sh
end

section
namespace Go.Sx
open Go.RowKit Go.ChangeShapes Go.WideShapes
inductive K where
 | i (k : IntKind) | b | f (k : FloatKind) | s
def K.fits : K → D → Prop
 | .i k, .i k' n => k' = k ∧ (Lit.int k n).wf = true
 | .b, .b _ => True
 | .f k, .f k' n => k' = k ∧ (Lit.float k n).wf = true
 | .s, .s x => x.size ≤ maxLen
 | _, _ => False
def jbp : List K → List D → Prop
 | [], [] => True
 | k :: ks, d :: ds => k.fits d ∧ jbp ks ds
 | _, _ => False
theorem jd8 : ∀ {ks : List K} {ds : List D} {ks' : List K} {ds' : List D}, jbp ks ds → jbp ks' ds' → jbp (ks ++ ks') (ds ++ ds')
 | [], [], _, _, _, h => h
 | _ :: _, _ :: _, _, _, h, h' => ⟨h.1, jd8 h.2 h'⟩
 | [], _ :: _, _, _, h, _ => h.elim
 | _ :: _, [], _, _, h, _ => h.elim
theorem jd9 : ∀ {ks : List K} {ds : List D}, jbp ks ds → ds.length = ks.length
 | [], [], _ => rfl
 | _ :: _, _ :: _, h => by simp [jd9 h.2]
 | [], _ :: _, h => h.elim
 | _ :: _, [], h => h.elim
def jeL (g : TypeId → Option (List K)) (P : Program) : Nat → List Field → Option (List K)
 | _, [] => some []
 | n, f :: fs => match g f.type with
  | none => none
  | some ks => if f.offset = n ∧ P.cellsOf f.type = ks.length then (jeL g P (n + ks.length) fs).map (ks ++ ·) else none
def kinds (P : Program) : Nat → TypeId → Option (List K)
 | 0, _ => none
 | d + 1, t => match P.underlying t with
  | some .bool => some [.b]
  | some (.int k) => some [.i k]
  | some (.float k) => some [.f k]
  | some .string => some [.s]
  | some (.struct fs) => match jeL (kinds P d) P 0 fs.toList with
   | some ks => if P.cellsOf t = ks.length then some ks else none
   | none => none
  | some (.array n e) => match kinds P d e with
   | some ks => if P.cellsOf t = n * ks.length ∧ P.cellsOf e = ks.length then some (List.replicate n ks).flatten else none
   | none => none
  | _ => none
section
variable {H : Type} {enc : TypeId × Value → H} {P : Program} {w : World} {base : Nat} {spare : Nat → Bool} {held : Bool}
theorem jiJ {ks : List K} {e : TypeId} {m : Nat} (ih : ∀ cs x, DataW.trod enc P w base spare held m e cs = some x → ∃ ds : List D, cs = ds.map D.val ∧ jbp ks ds) :
  ∀ (n : Nat) (cs : List Value), cs.length = n * ks.length → (∀ i, i < n → ∃ x, DataW.trod enc P w base spare held m e ((cs.drop (i * ks.length)).take ks.length) = some x) → ∃ ds : List D, cs = ds.map D.val ∧ jbp (List.replicate n ks).flatten ds
 | 0, cs, hl, _ => ⟨[], by simpa using hl, trivial⟩
 | n + 1, cs, hl, h => by
  obtain ⟨x, hx⟩ := h 0 (by omega)
  obtain ⟨ds0, h0, h1⟩ := ih _ x hx
  obtain ⟨ds1, h2, h3⟩ := jiJ ih n (cs.drop ks.length) (by rw [List.length_drop, hl, Nat.add_mul]; omega) (fun i hi => by
   obtain ⟨y, hy⟩ := h (i + 1) (by omega)
   refine ⟨y, ?_⟩
   rw [List.drop_drop]
   rw [show ks.length + i * ks.length = (i + 1) * ks.length by rw [Nat.add_mul]; omega]
   exact hy)
  refine ⟨ds0 ++ ds1, ?_, jd8 h1 h3⟩
  rw [List.map_append, ← h0, ← h2]
  simp
theorem jhV {g : TypeId → Option (List K)} {m : Nat} (ih : ∀ t ks cs x, g t = some ks → DataW.trod enc P w base spare held m t cs = some x → ∃ ds : List D, cs = ds.map D.val ∧ jbp ks ds) :
  ∀ (fs : List Field) (n : Nat) (ks : List K) (cs : List Value), jeL g P n fs = some ks → cs.length = n + ks.length → (∀ f ∈ fs, ∃ x, DataW.trod enc P w base spare held m f.type ((cs.drop f.offset).take (P.cellsOf f.type)) = some x) →
   ∃ ds : List D, cs.drop n = ds.map D.val ∧ jbp ks ds
 | [], n, ks, cs, hk, hl, _ => by
  simp only [jeL, Option.some.injEq] at hk
  subst hk
  refine ⟨[], ?_, trivial⟩
  simp at hl
  simp [hl]
 | f :: fs, n, ks, cs, hk, hl, h => by
  simp only [jeL] at hk
  split at hk
  ·cases hk
  ·rename_i kf hg
   split at hk
   ·rename_i hc
    cases hr : jeL g P (n + kf.length) fs with
    | none => simp [hr] at hk
    | some kr =>
     simp only [hr, Option.map_some, Option.some.injEq] at hk
     subst hk
     obtain ⟨x, hx⟩ := h f List.mem_cons_self
     rw [hc.1, hc.2] at hx
     obtain ⟨ds0, h0, h1⟩ := ih f.type kf _ x hg hx
     obtain ⟨ds1, h2, h3⟩ := jhV ih fs (n + kf.length) kr cs hr (by rw [hl, List.length_append]; omega) (fun f' hf' => h f' (List.mem_cons_of_mem _ hf'))
     refine ⟨ds0 ++ ds1, ?_, jd8 h1 h3⟩
     rw [List.map_append, ← h0, ← h2, ← List.drop_drop]
     exact (List.take_append_drop _ _).symm
   ·cases hk
theorem jgP : ∀ (d : Nat) (t : TypeId) (ks : List K) (fuel : Nat) (cs : List Value) (x : DataW H × List MemPlace), kinds P d t = some ks → DataW.trod enc P w base spare held fuel t cs = some x →
  ∃ ds : List D, cs = ds.map D.val ∧ jbp ks ds
 | 0, _, _, _, _, _, h, _ => by cases h
 | d + 1, t, ks, fuel, cs, x, hk, hx => by
  unfold kinds at hk
  split at hk
  ·rename_i ht
   cases hk
   obtain ⟨b, rfl, _⟩ := DataW.trod_bool ht hx
   exact ⟨[.b b], rfl, trivial, trivial⟩
  ·rename_i k ht
   cases hk
   obtain ⟨n, rfl, _, hw⟩ := DataW.trod_int ht hx
   exact ⟨[.i k n], rfl, ⟨rfl, hw⟩, trivial⟩
  ·rename_i k ht
   cases hk
   cases fuel with
   | zero => simp [DataW.trod] at hx
   | succ n =>
    rcases cs with _ | ⟨v, _ | ⟨v', r⟩⟩
    ·simp [DataW.trod, ht] at hx
    ·cases v with
     | float k2 n2 =>
      simp only [DataW.trod, ht] at hx
      split at hx
      ·rename_i hh
       exact ⟨[.f k2 n2], rfl, ⟨hh.1, hh.2⟩, trivial⟩
      ·cases hx
     | _ => simp [DataW.trod, ht] at hx
    ·simp [DataW.trod, ht] at hx
  ·rename_i ht
   cases hk
   obtain ⟨z, rfl, _, hw⟩ := DataW.trod_string ht hx
   exact ⟨[.s z], rfl, hw, trivial⟩
  ·rename_i fs ht
   split at hk
   ·rename_i ks' hks
    split at hk
    ·rename_i hc
     cases hk
     obtain ⟨xs, n, rfl, _, hl, hxl, hf⟩ := DataW.trod_struct ht hx
     have := jhV (enc := enc) (w := w) (base := base) (spare := spare) (held := held) (g := kinds P d) (m := n) (fun t ks cs x h1 h2 => jgP d t ks n cs x h1 h2) fs.toList 0 ks cs hks (by rw [hl, hc]; omega) (fun f hfm => by
      obtain ⟨i, hi, hfi⟩ := List.mem_iff_getElem.1 hfm
      have hi' : i < fs.size := by simpa using hi
      have h1 := hf i f (by rw [Array.getElem?_eq_getElem hi']; simpa using hfi)
      exact ⟨xs[i]'(by omega), by rw [h1, List.getElem?_eq_getElem]⟩)
     simpa using this
    ·cases hk
   ·cases hk
  ·rename_i n e ht
   split at hk
   ·rename_i ks' hks
    split at hk
    ·rename_i hc
     cases hk
     obtain ⟨xs, m, rfl, _, hl, hxl, hf⟩ := DataW.trod_array ht hx
     exact jiJ (fun cs x h => jgP d e ks' m cs x hks h) n cs (by rw [hl, hc.1]) (fun i hi => by
      have h1 := hf i hi
      rw [hc.2] at h1
      exact ⟨xs[i]'(by omega), by rw [h1, List.getElem?_eq_getElem]⟩)
    ·cases hk
   ·cases hk
  ·cases hk
theorem jpH {t e : TypeId} {ks : List K} {d fuel : Nat} {cs : List Value} {x : DataW H × List MemPlace} (ht : P.underlying t = some (.slice e)) (hk : kinds P d e = some ks) (hc : P.cellsOf e = ks.length) (h0 : 0 < ks.length)
  (hx : DataW.trod enc P w base spare held fuel t cs = some x) :
  ∃ (v : Value) (rows : List (List D)), cs = [v] ∧ (∀ r ∈ rows, jbp ks r) ∧ jaJ w v (.lits ks.length rows) ∧ (x.1 = .nil ∧ rows = [] ∨ ∃ el sp, x.1 = .slice el sp ∧ el.length = rows.length) := by
 rcases DataW.trod_slice ht hx with ⟨rfl, rfl⟩ | ⟨a, len, cap, elems, rest, n, rfl, rfl, rfl, hb, hl, hm, hel, hi, _, _⟩
 ·exact ⟨_, [], rfl, (fun _ h => by cases h), ⟨none, 0, rfl, ⟨by simp [Cont.n], fun _ => rfl⟩, fun h => absurd h (by simp [Cont.n])⟩, .inl ⟨rfl, rfl⟩⟩
 ·-- each element's cells
  have hget : ∀ i, i < len → ∃ ds : List D, jbp ks ds ∧ ∀ j, j < ks.length → w.cell? ((a.add (i * ks.length)).add j) = (ds[j]?).map D.val := fun i hil => by
   have h1 := hi i hil
   rw [hc] at h1
   have h2 : elems[i]? = some (elems[i]'(by omega)) := List.getElem?_eq_getElem (by omega)
   rw [h2] at h1
   obtain ⟨cs', hcs, htr⟩ := Option.bind_eq_some_iff.1 h1
   obtain ⟨ds, hds, hfit⟩ := jgP d e ks n cs' _ hk htr
   obtain ⟨_, hcl, hat⟩ := World.cells?_some hcs
   refine ⟨ds, hfit, fun j hj => ?_⟩
   rw [hat j hj, hds, List.getElem?_map]
  let R : Nat → List D := fun i => if h : i < len then Classical.choose (hget i h) else []
  have hR : ∀ i (h : i < len), jbp ks (R i) ∧ ∀ j, j < ks.length → w.cell? ((a.add (i * ks.length)).add j) = ((R i)[j]?).map D.val := fun i h => by
   show jbp ks (if h : i < len then _ else _) ∧ _
   simp only [R, dif_pos h]
   exact Classical.choose_spec (hget i h)
  refine ⟨_, (List.range len).map R, rfl, fun r hr => ?_, ?_, .inr ⟨_, _, rfl, by simp [hel]⟩⟩
  ·obtain ⟨i, hi', rfl⟩ := List.mem_map.1 hr
   exact (hR i (by simpa using hi')).1
  ·refine ⟨some a, cap, by simp [Cont.n], ⟨by simpa [Cont.n] using hl, fun h => by cases h⟩, fun hn => ?_⟩
   have hn : 0 < len := by simpa [Cont.n] using hn
   have hsp : a.spot = none := by
    have h1 := (hR 0 hn).2 0 h0
    have hfl := jd9 (hR 0 hn).1
    rw [List.getElem?_eq_getElem (by omega)] at h1
    simp [Addr.add] at h1
    cases hs : a.spot with
    | none => rfl
    | some s =>
     exfalso
     unfold World.cell? at h1
     simp only [hs] at h1
     split at h1
     ·simp at h1
     ·cases h1
   obtain ⟨b, off, sp⟩ := a
   simp only at hsp
   subst hsp
   refine ⟨b, off, rfl, fun j y hj => ?_⟩
   have hne : 0 < ks.length := h0
   have hjl : j < (Cont.lits ks.length ((List.range len).map R)).flat.length := (List.getElem?_eq_some_iff.1 hj).1
   rw [Cont.flat_length] at hjl
   simp only [Cont.n, Cont.e, List.length_map, List.length_range] at hjl
   have hq : j / ks.length < len := Nat.div_lt_of_lt_mul (by rw [Nat.mul_comm]; exact hjl)
   have hr : j % ks.length < ks.length := Nat.mod_lt _ hne
   have hg := Cont.flat_get (.lits ks.length ((List.range len).map R)) (i := j / ks.length) (j := j % ks.length) (by simpa [Cont.n] using hq) hr
   have ej : j / ks.length * ks.length + j % ks.length = j := by rw [Nat.mul_comm]; exact Nat.div_add_mod j _
   simp only [Cont.e] at hg
   rw [ej, hj] at hg
   have hcell := (hR (j / ks.length) hq).2 (j % ks.length) hr
   have hfl := jd9 (hR (j / ks.length) hq).1
   rw [ja9, ja9, Nat.add_assoc, ej, List.getElem?_eq_getElem (by omega)] at hcell
   rw [hcell]
   simp only [Option.some.injEq] at hg
   simp [hg, Cont.cell, List.getD, hq, List.getElem?_eq_getElem (show j % ks.length < (R (j / ks.length)).length by omega)]
theorem jqK {v : Value} {c c' : Cont} (h : jaJ w v c) (hn : c'.n = c.n) (hf : c'.flat = c.flat) : jaJ w v c' := by
 obtain ⟨a, cap, hv, hc, hcell⟩ := h
 exact ⟨a, cap, by rw [hn]; exact hv, by rw [hn]; exact hc, fun h => by
  obtain ⟨b, off, e, hx⟩ := hcell (by rw [← hn]; exact h)
  exact ⟨b, off, e, by rw [hf]; exact hx⟩⟩
theorem jnB : ∀ {n : Nat} {r : List D}, jbp (List.replicate n (.i .i64)) r → ∃ l : List Int, r = l.map (D.i .i64) ∧ l.length = n ∧ ∀ x ∈ l, inI x
 | 0, [], _ => ⟨[], rfl, rfl, fun _ h => by cases h⟩
 | n + 1, .i k x :: r, h => by
  obtain ⟨l, h1, h2, h3⟩ := jnB (n := n) h.2
  obtain ⟨rfl, hw⟩ := h.1
  refine ⟨x :: l, by rw [h1]; rfl, by simp [h2], fun y hy => ?_⟩
  rcases List.mem_cons.1 hy with rfl | hy
  ·unfold inI
   simpa [Lit.wf, IntKind.min, IntKind.max, IntKind.signed, IntKind.bits] using hw
  ·exact h3 y hy
 | 0, _ :: _, h => h.elim
 | _ + 1, [], h => h.elim
 | _ + 1, .b _ :: _, h => h.1.elim
 | _ + 1, .f _ _ :: _, h => h.1.elim
 | _ + 1, .s _ :: _, h => h.1.elim
 | _ + 1, .v _ :: _, h => h.1.elim
theorem jpI {n : Nat} {rows : List (List D)} (h : ∀ r ∈ rows, jbp (List.replicate n (.i .i64)) r) : ∃ l : List (List Int), rows = l.map (fun r => r.map (D.i .i64)) ∧ l.length = rows.length ∧ ∀ r ∈ l, r.length = n ∧ ∀ x ∈ r, inI x := by
 induction rows with
 | nil => exact ⟨[], rfl, rfl, fun _ h => by cases h⟩
 | cons r rows ih =>
  obtain ⟨l, h1, h2, h3⟩ := ih fun r hr => h r (List.mem_cons_of_mem _ hr)
  obtain ⟨x, h4, h5, h6⟩ := jnB (h r List.mem_cons_self)
  refine ⟨x :: l, by rw [h1, h4]; rfl, by simp [h2], fun y hy => ?_⟩
  rcases List.mem_cons.1 hy with rfl | hy
  ·exact ⟨h5, h6⟩
  ·exact h3 y hy
theorem jpJ {n : Nat} {l : List (List Int)} (h : ∀ r ∈ l, r.length = n) : (Cont.recs n l).flat = (Cont.lits n (l.map fun r => r.map (D.i .i64))).flat := by
 simp only [Cont.flat]
 induction l with
 | nil => rfl
 | cons r l ih =>
  rw [List.flatMap_cons, List.map_cons, List.flatMap_cons, ih fun r hr => h r (List.mem_cons_of_mem _ hr)]
  congr 1
  have hr := h r List.mem_cons_self
  subst hr
  rw [jhe]
  exact (litD_self' (r.map (D.i .i64)) (by simp)).symm
 where
 litD_self' {n : Nat} (r : List D) (h : r.length = n) : jf5 n r = r := by subst h; exact jhf r
theorem jpK {t e : TypeId} {d n fuel : Nat} {cs : List Value} {x : DataW H × List MemPlace} (ht : P.underlying t = some (.slice e)) (hk : kinds P d e = some (List.replicate n (.i .i64))) (hc : P.cellsOf e = n) (h0 : 0 < n)
  (hx : DataW.trod enc P w base spare held fuel t cs = some x) :
  ∃ (v : Value) (l : List (List Int)), cs = [v] ∧ jaJ w v (.recs n l) ∧ (∀ r ∈ l, r.length = n ∧ ∀ x ∈ r, inI x) ∧ (x.1 = .nil ∧ l = [] ∨ ∃ el sp, x.1 = .slice el sp ∧ el.length = l.length) := by
 obtain ⟨v, rows, h1, h2, h3, h4⟩ := jpH ht hk (by simpa using hc) (by simpa using h0) hx
 obtain ⟨l, h5, h6, h7⟩ := jpI h2
 subst h5
 refine ⟨v, l, h1, jqK h3 (by simp [Cont.n]) ?_, h7, ?_⟩
 ·rw [List.length_replicate]; exact jpJ fun r hr => (h7 r hr).1
 ·rcases h4 with h4 | ⟨el, sp, h4, h8⟩
  ·exact .inl ⟨h4.1, by simpa using h4.2⟩
  ·exact .inr ⟨el, sp, h4, by simpa using h8⟩
end
inductive ArgIs (w : World) : Value → A → Prop where
 | d (x : D) : ArgIs w x.val (.d x)
 | s (l : List D) : ArgIs w (.agg (l.map D.val).toArray) (.s l)
 | r (v : Value) (c : Cont) (he : 0 < c.e) (h : jaJ w v c) : ArgIs w v (.r c)
def jdL : Nat → List A → List V
 | _, [] => []
 | n, .d x :: l => .w (.c (.d x)) :: jdL (n + 1) l
 | n, .s x :: l => .w (.a (x.map C.d)) :: jdL (n + 1) l
 | n, .r _ :: l => .w (.c (.o n)) :: jdL (n + 1) l
 | n, .f g :: l => .w (.c (.fn g [])) :: jdL (n + 1) l
inductive ArgsAre (w : World) : List Value → List A → Prop where
 | nil : ArgsAre w [] []
 | cons {v : Value} {a : A} {vs : List Value} {asq : List A} (h : ArgIs w v a) (t : ArgsAre w vs asq) : ArgsAre w (v :: vs) (a :: asq)
section
variable [Globs] {P : Program} {w : World}
theorem jrv {vs : List Value} {asq : List A} (h : ArgsAre w vs asq) : ∀ (n : Nat) (ρ : Env), (∀ i v, vs[i]? = some v → ρ (n + i) = v) →
  (jdL n asq).map (V.val ρ) = vs ∧ (∀ x ∈ jdL n asq, V.lt (n + asq.length) x) ∧ (∀ k o, find (jbz n asq) k = some o → n ≤ k ∧ k < n + asq.length ∧ o.lt (n + asq.length) ∧ o.ok ρ (fun k => k < w.heap.size) w k ∧ ∀ b, o.blk (ρ k) ≠ some b) ∧ asq.length = vs.length := by
 induction h with
 | nil => exact fun n ρ _ => ⟨rfl, (fun _ h => by cases h), (fun _ _ h => by cases h), rfl⟩
 | @cons v a vs asq ha hs ih =>
  intro n ρ hρ
  obtain ⟨h1, h2, h3, h4⟩ := ih (n + 1) ρ (fun i v hv => by rw [show n + 1 + i = n + (i + 1) by omega]; exact hρ (i + 1) v (by simpa using hv))
  have h0 : ρ n = v := by have := hρ 0 v rfl; simpa using this
  have up : ∀ x, V.lt (n + 1 + asq.length) x → V.lt (n + (a :: asq).length) x := fun x hx => V.lt_mono (by simp; omega) hx
  have up3 : ∀ k o, find (jbz (n + 1) asq) k = some o → n ≤ k ∧ k < n + (a :: asq).length ∧ o.lt (n + (a :: asq).length) ∧ o.ok ρ (fun k => k < w.heap.size) w k ∧ ∀ b, o.blk (ρ k) ≠ some b := fun k o hf => by
   obtain ⟨p1, p2, p3, p4, p5⟩ := h3 k o hf
   exact ⟨by omega, by simp; omega, O.lt_mono (by simp; omega) p3, p4, p5⟩
  cases ha with
  | d x =>
   refine ⟨by simp only [jdL, List.map_cons, h1]; rfl, fun y hy => ?_, up3, by simp [h4]⟩
   rcases List.mem_cons.1 hy with rfl | hy
   ·trivial
   ·exact up y (h2 y hy)
  | s l =>
   refine ⟨?_, fun y hy => ?_, up3, by simp [h4]⟩
   ·simp only [jdL, List.map_cons, h1]
    congr 1
    simp [V.val, W.val, C.val, Function.comp_def]
   ·rcases List.mem_cons.1 hy with rfl | hy
    ·intro c hc
     obtain ⟨z, _, rfl⟩ := List.mem_map.1 hc
     trivial
    ·exact up y (h2 y hy)
  | r v c he hr =>
   refine ⟨?_, fun y hy => ?_, fun k o hf => ?_, by simp [h4]⟩
   ·simp only [jdL, List.map_cons, h1]
    congr 1
   ·rcases List.mem_cons.1 hy with rfl | hy
    ·show n < n + (asq.length + 1)
     omega
    ·exact up y (h2 y hy)
   ·simp only [jbz, find] at hf
    split at hf
    ·rename_i e
     subst e
     cases hf
     refine ⟨Nat.le_refl _, by simp, trivial, ?_, fun b => by simp [O.blk]⟩
     show jaJ w (ρ n) c ∧ jcF _ (ρ n)
     rw [h0]
     exact ⟨hr, jaJ.lt hr he⟩
    ·exact up3 k o hf
theorem jpL {f : Nat} {qs : List (Option Cont)} {g : List A → Option (Prop × List RV)} {vs : List Value} {ax : List A} {ob : Prop} {b : Bool} {fn : Func} (hok : jah P f true (jaG qs g)) (hargs : ArgsAre w vs ax)
  (hto : jh9 qs (jbz 0 ax) (jdL 0 ax) = some ax) (hg : g ax = some (ob, [.d (.b b)])) (ho : ob) (hb : b = true)
  (hfn : P.funcs[f]? = some fn) (hbody : fn.body = some (fn.body.getD .skip)) (hn : (fn.name == "runtime.NumGoroutine") = false) (hgl : jbC (fun k => k < w.heap.size) w) :
  Calls P f vs.toArray w fun e w' => e = .returned (.bool true) ∧ Below w.heap.size w w' := by
 subst hb
 obtain ⟨h1, h2, h3, h4⟩ := jrv hargs 0 (fun i => (vs[i]?).getD undef) (fun i v hv => by simp [hv])
 rw [Nat.zero_add] at h2
 have hh : HRel (fun i => (vs[i]?).getD undef) (fun k => k < w.heap.size) (jbz 0 ax) ax.length w :=
  ⟨fun k o hf => by obtain ⟨_, p2, p3, p4, _⟩ := h3 k o hf; exact ⟨by omega, by simpa using p3, p4⟩, fun k o k' o' b hf _ _ hbk => absurd hbk ((h3 k o hf).2.2.2.2 b), hgl⟩
 have := (hok.sound hfn hbody hn).sound _ (fun k => k < w.heap.size) w (jdL 0 ax) (jbz 0 ax) ax.length (.leaf ⟨ob, jbT (rvW ax.length [.d (.b true)]), jet ax.length [.d (.b true)] (jbz 0 ax), jc0 ax.length [.d (.b true)]⟩) (by
  unfold jaG
  rw [hto]
  dsimp only
  rw [hg]) ho h2 hh (fun k hk => hk)
 rw [h1] at this
 refine this.mono ?_
 rintro e w' ⟨ρ', rfl, hl⟩
 exact ⟨rfl, hl.mono rfl⟩
end
section
variable {H : Type} {enc : TypeId × Value → H} {P : Program}
theorem jmC {sp : Nat → Bool} (hl : laidOutB P = true) {W W' : World} (hb : Below W.heap.size W W') : ∀ (ts : List TypeId) (vs : List Value) (ds : List (DataW H)) (ps : List MemPlace), (∀ t ∈ ts, P.readableRec t = true ∧ t < P.types.size) →
  DataW.TrodAll enc P W 0 (fun _ => true) true ts vs ds ps → (∀ p ∈ ps, p.block < W.heap.size) → (∀ p ∈ ps, sp p.block = true) → DataW.TrodAll enc P W' 0 sp true ts vs ds ps
 | [], [], [], _, _, h, _, _ => h
 | t :: ts, v :: vs, d :: ds, ps, ht, h, hlt, hs => by
  obtain ⟨p, q, h1, h2, rfl⟩ := h
  have htt := ht t List.mem_cons_self
  exact ⟨p, q, WideElems.Trod_stays hl htt.1 htt.2 h1 (fun x hx => hb.same (hlt x (List.mem_append_left _ hx))) (fun x hx => hs x (List.mem_append_left _ hx)),
   jmC hl hb ts vs ds q (fun t ht' => ht t (List.mem_cons_of_mem _ ht')) h2 (fun x hx => hlt x (List.mem_append_right _ hx)) (fun x hx => hs x (List.mem_append_right _ hx)), rfl⟩
 | [], _ :: _, _, _, _, h, _, _ => h.elim
 | _ :: _, [], _, _, _, h, _, _ => h.elim
 | [], [], _ :: _, _, _, h, _, _ => h.elim
 | _ :: _, _ :: _, [], _, _, h, _, _ => h.elim
theorem jqL {f : Func} {s : ChangeSpec} {apart fresh handsOn again : Bool} {W W' : World} {args : Array Value} {ds gs : List (DataW H)} {before : List MemPlace} {tb : TypeId} (hvars : s.vars = []) (hrt : f.resultTypes = #[tb]) (htb : P.underlying tb = some .bool)
  (hres : (s.fn H (ds ++ gs)).results = [.lit (.bool true)]) (hargs : (s.fn H (ds ++ gs)).args = ds) (hsv : (s.fn H (ds ++ gs)).vars = []) (hl : laidOutB P = true) (hread : ∀ t ∈ f.params.toList, P.readableRec t = true ∧ t < P.types.size)
  (hW : DataW.Whole enc P f.params.toList s.vars apart W args.toList ds gs before) (hb : Below W.heap.size W W') : s.post enc P f apart fresh handsOn again W args (.bool true) W' := by
 have hlt : ∀ p ∈ before, p.block < W.heap.size := fun p hp => hW.lt p hp
 have hW' := hW
 obtain ⟨p, q, h1, h2, rfl, hfz, hnd⟩ := hW'
 rw [hvars] at h2
 have hq : q = [] := by
  cases gs with
  | nil => exact h2
  | cons _ _ => exact h2.elim
 subst hq
 rw [List.append_nil] at hlt hfz hnd
 have hA : ∀ sp : Nat → Bool, (∀ x ∈ p, sp x.block = true) → DataW.TrodAll enc P W' 0 sp true f.params.toList args.toList ds p := fun sp hs => jmC hl hb _ _ _ _ hread h1 hlt hs
 have hR : ∀ (b : Nat) (sp : Nat → Bool) (hd : Bool), DataW.TrodAll enc P W' b sp hd [tb] [.bool true] [.lit (.bool true)] [] := fun b sp hd => ⟨[], [], ⟨1, by simp [DataW.trod, htb, Value.cells]⟩, rfl, rfl⟩
 have hrl : (Value.bool true).resultList f.resultTypes.size = [.bool true] := by rw [hrt]; rfl
 have hrt' : f.resultTypes.toList = [tb] := by rw [hrt]
 refine ⟨ds, gs, p ++ [], [], p, [], hW, ?_, ?_, ?_, World.keptBut_mono (fun x hx => ⟨hx, .inr (.inl (by simpa using hx))⟩) (hb.frame (·∈ p ++ [])), fun _ => ⟨fun j t r hj hr => ?_, ?_⟩⟩
 ·rw [hrl, hrt', hres]; exact hR _ _ _
 ·rw [hargs]; exact hA _ (fun x hx => by simpa using hlt x hx)
 ·rw [hvars, hsv]; rfl
 ·rw [hrt] at hj
  rw [hrl] at hr
  cases j with
  | zero =>
   simp at hj hr
   subst hj; subst hr
   exact okWide_bool_mk htb _
  | succ j => simp at hj
 ·refine ⟨[.lit (.bool true)] ++ ds, [], p, ⟨p, [], ?_, by rw [hvars]; rfl, by simp, ?_, ?_⟩, fun x hx _ => by simpa using hx⟩
  ·rw [hrl, hrt']
   exact ⟨[], p, ⟨1, by simp [DataW.trod, htb, Value.cells]⟩, hA _ (fun _ _ => rfl), rfl⟩
  ·intro b off hp
   rw [hb.frozen (hlt _ hp)]
   exact hfz b off hp
  ·exact hnd
end
section
variable {H : Type} {enc : TypeId × Value → H} {P : Program} {w : World} {base : Nat} {spare : Nat → Bool} {held : Bool} {r : Reach} {b0 : Nat}
theorem jqM {t e : TypeId} {v v' : Value} (ht : P.underlying t = some (.slice e)) (hval : Value.okWide P w r b0 t v) (h : v.cells.toList = [v']) : v = v' := by
 obtain ⟨a, len, cap, rfl⟩ := okWide_slice ht hval
 simpa [Value.cells] using h
theorem jqN {t e : TypeId} {d n : Nat} {v : Value} {x : DataW H} {p : List MemPlace} (ht : P.underlying t = some (.slice e)) (hk : kinds P d e = some (List.replicate n (.i .i64))) (hc : P.cellsOf e = n) (h0 : 0 < n)
  (hval : Value.okWide P w r b0 t v) (h : DataW.Trod enc P w base spare held t v x p) :
  ∃ l : List (List Int), ArgIs w v (.r (.recs n l)) ∧ (∀ r ∈ l, r.length = n ∧ ∀ x ∈ r, inI x) ∧ (x = .nil ∧ l = [] ∨ ∃ el sp, x = .slice el sp ∧ el.length = l.length) := by
 obtain ⟨fuel, hx⟩ := h
 obtain ⟨v', l, h1, h2, h3, h4⟩ := jpK ht hk hc h0 hx
 have := jqM ht hval h1
 subst this
 exact ⟨l, .r _ _ h0 h2, h3, h4⟩
end
end Go.Sx
end

section
namespace Go.Sx
open Go.RowKit Go.ChangeShapes Go.WideShapes
inductive K2 where
 | d (k : K)
 | s (ks : List K)
inductive T1 where
 | d (x : D)
 | r (c : Cont)
inductive Cell2 (w : World) : K2 → Value → T1 → Prop where
 | d (k : K) (x : D) (h : k.fits x) : Cell2 w (.d k) x.val (.d x)
 | s (ks : List K) (v : Value) (rows : List (List D)) (h0 : 0 < ks.length) (h : ∀ r ∈ rows, jbp ks r) (hr : jaJ w v (.lits ks.length rows)) : Cell2 w (.s ks) v (.r (.lits ks.length rows))
inductive Cells2 (w : World) : List K2 → List Value → List T1 → Prop where
 | nil : Cells2 w [] [] []
 | cons {k : K2} {v : Value} {t : T1} {ks : List K2} {vs : List Value} {ts : List T1} (h : Cell2 w k v t) (r : Cells2 w ks vs ts) : Cells2 w (k :: ks) (v :: vs) (t :: ts)
theorem Cells2.append {w : World} {ks ks' : List K2} {vs vs' : List Value} {ts ts' : List T1} (h : Cells2 w ks vs ts) (h' : Cells2 w ks' vs' ts') : Cells2 w (ks ++ ks') (vs ++ vs') (ts ++ ts') := by
 induction h with
 | nil => exact h'
 | cons h r ih => exact .cons h ih
section
variable {H : Type} {enc : TypeId × Value → H} {P : Program} {w : World} {base : Nat} {spare : Nat → Bool} {held : Bool}
end
section
variable [Globs]
inductive T2 where
 | c (t : T1)
 | a (l : List T1)
structure TOK (w : World) (n : Nat) (ρ ρ' : Env) (vals : List Value) (cs : List C) (hp : Hp) (n' : Nat) : Prop where
 agree : jaf n ρ ρ'
 le : n ≤ n'
 val : cs.map (C.val ρ') = vals
 lt : ∀ c ∈ cs, C.lt n' c
 heap : ∀ k o, find hp k = some o → n ≤ k ∧ k < n' ∧ ∃ c, o = .ext c ∧ jaJ w (ρ' k) c ∧ 0 < c.e
theorem TOK.append {w : World} {n n1 n2 : Nat} {ρ ρ1 ρ2 : Env} {a b : List Value} {ca cb : List C} {ha hb : Hp} (h1 : TOK w n ρ ρ1 a ca ha n1) (h2 : TOK w n1 ρ1 ρ2 b cb hb n2) : TOK w n ρ ρ2 (a ++ b) (ca ++ cb) (hb ++ ha) n2 := by
 refine ⟨h1.agree.trans h2.agree h1.le, Nat.le_trans h1.le h2.le, ?_, ?_, ?_⟩
 ·rw [List.map_append, h2.val, ← h1.val]
  congr 1
  exact List.map_congr_left fun c hc => C.val_agree h2.agree (h1.lt c hc)
 ·intro c hc
  rcases List.mem_append.1 hc with hc | hc
  ·exact C.lt_mono h2.le (h1.lt c hc)
  ·exact h2.lt c hc
 ·intro k o hf
  rw [jau] at hf
  cases hg : find hb k with
  | some o2 =>
   rw [hg] at hf
   cases hf
   obtain ⟨q1, q2, q3⟩ := h2.heap k o hg
   exact ⟨Nat.le_trans h1.le q1, q2, q3⟩
  | none =>
   rw [hg] at hf
   obtain ⟨q1, q2, c, q3, q4, q5⟩ := h1.heap k o hf
   exact ⟨q1, Nat.lt_of_lt_of_le q2 h2.le, c, q3, by rw [h2.agree k q2]; exact q4, q5⟩
end
end Go.Sx
end

section
namespace Go.Sx
open Go.RowKit Go.ChangeShapes Go.WideShapes
section
variable {P : Program} {w : World}
theorem jgQ : ∀ {l : List (String × DataW Unit)} {ps : List MemPlace} {n : String} {d : DataW Unit}, DataW.LaidVars P w l ps → (n, d) ∈ l →
  ∃ g t cs fuel p, P.globalNamed n = some g ∧ (P.globals[g]?).map (·.type) = some t ∧ w.var? P n = some cs ∧ DataW.trod (fun _ => ()) P w 0 (fun _ => true) false fuel t cs.toList = some (d, p)
 | (n', d') :: r, ps, n, d, h, hm => by
  obtain ⟨g, t, cs, fuel, p, q, h1, h2, h3, h4, h5, _⟩ := h
  rcases List.mem_cons.1 hm with e | hm
  ·cases e
   exact ⟨g, t, cs, fuel, p, h1, h2, h3, h4⟩
  ·exact jgQ h5 hm
variable {enc : TypeId × Value → Unit} {base : Nat} {spare : Nat → Bool} {held : Bool} {fuel : Nat}
theorem jdh {α : Type} {l : List α} {i : Nat} (h : i < l.length) : (l.drop i).take 1 = [l[i]] := by
 rw [List.drop_eq_getElem_cons h]
 rfl
theorem jpM {t e n : Nat} {k : IntKind} {l : List Int} {cs : List Value} {p : List MemPlace} (hu : P.underlying t = some (.array n e)) (he : P.underlying e = some (.int k)) (hc : P.cellsOf e = 1) (hct : P.cellsOf t = n) (hl : l.length = n)
  (h : DataW.trod enc P w base spare held fuel t cs = some (.agg (l.map fun x => .lit (.int k x)), p)) : cs = (Cont.ints k l).flat.map D.val := by
 obtain ⟨xs, m, _, hx, hlen, hn, hel⟩ := DataW.trod_array hu h
 have hx1 : l.map (fun x => DataW.lit (H := Unit) (.int k x)) = xs.map (·.1) := by
  have := congrArg Prod.fst hx
  simpa using this
 have hf : (Cont.ints k l).flat.map D.val = l.map fun x => Value.int k x := by
  simp only [Cont.flat, List.map_flatMap, List.map_cons, List.map_nil, D.val]
  rw [← List.flatMap_singleton' (l.map fun x => Value.int k x), List.flatMap_map]
 rw [hf]
 apply List.ext_getElem
 ·rw [hlen, hct, List.length_map, hl]
 ·intro i h1 h2
  have hi : i < n := by rw [hlen, hct] at h1; exact h1
  have h3 := hel i hi
  rw [hc, Nat.mul_one, jdh h1] at h3
  have hxi : i < xs.length := by omega
  rw [List.getElem?_eq_getElem hxi] at h3
  obtain ⟨a, ha, hb, _⟩ := DataW.trod_int he h3
  have h4 : (l.map (fun x => DataW.lit (H := Unit) (.int k x)))[i]? = (xs.map (·.1))[i]? := by rw [hx1]
  rw [List.getElem?_map, List.getElem?_map, List.getElem?_eq_getElem hxi, List.getElem?_eq_getElem (show i < l.length by omega), hb] at h4
  simp only [Option.map_some, Option.some.injEq] at h4
  have e1 : l[i] = a := by cases h4; rfl
  have e2 : cs[i] = .int k a := by simpa using ha
  rw [e2, List.getElem_map, e1]
theorem jrW {n : String} {g : Nat} {cs : Array Value} {c : Cont} (hg : P.globalNamed n = some g) (hv : w.var? P n = some cs) (hc : cs.toList = c.flat.map D.val) :
  g < w.heap.size ∧ (∀ j x, c.flat[j]? = some x → w.cell? ⟨g, j, none⟩ = some x.val) ∧ ∃ cs t f, w.heap[g]? = some (.cells cs t f) ∧ cs.size = c.flat.length := by
 have hcell := World.var?_cell hg hv
 have hsz : cs.size = c.flat.length := by
  have := congrArg List.length hc
  simpa using this
 simp only [World.var?, hg, Option.bind_some] at hv
 split at hv
 ·rename_i cs' t f hh
  cases hv
  refine ⟨(Array.getElem?_eq_some_iff.1 hh).1, fun j x hj => ?_, cs, t, f, hh, hsz⟩
  rw [hcell j]
  have : cs.toList[j]? = some x.val := by rw [hc, List.getElem?_map, hj]; rfl
  simpa using this
 ·cases hv
end
end Go.Sx
end

section
namespace Go
open Go.RowKit Go.ChangeShapes Go.WideShapes
section
variable {H : Type} {enc : TypeId × Value → H}
theorem jim {a : Assume} {C : Checked} {os : Os} {f : FuncId} {fn : Func} {s : ChangeSpec} {conds : List PathCond} {apart fresh handsOn again : Bool} {X : World → Array Value → Prop}
  (hX : ∀ (w w' : World) (args : Array Value), w.heap = w'.heap → X w args → X w' args)
  (own : ownKnob C.prog.godebug = none) (started : os.Started) (noInit : C.prog.inits.idxOf? f = none) (hfn : C.prog.funcs[f]? = some fn)
  (witness : ∃ (w : World) (tape : Tape) (i : Input), w.os = os ∧ (w.forCall tape i).Shaped C.prog ∧ i.vars = [] ∧ Input.okWide C.prog (w.forCall tape i) .any w.heap.size f i ∧
   ((s.pre enc C.prog fn conds apart (w.forCall tape i).memory i.args ∧ X (w.forCall tape i).memory i.args) ∧ sizedMet enc C.prog fn (OpenSpec.ofChange s) apart (w.forCall tape i).memory i.args) ∧ a.holds C.prog (lone (Frame.enter C.prog f i.args .normal) [] (w.forCall tape i)))
  (contract : ∀ (W : World) (base : Nat) (args : Array Value) (ds gs : List (DataW H)) (before : List MemPlace),
   (∀ (j : Nat) t v, fn.params[j]? = some t → args[j]? = some v → Value.okWide C.prog W .any base t v) →
   DataW.Whole enc C.prog fn.params.toList s.vars apart W args.toList ds gs before →
   (DataW.weightsEach C.prog (fn.params.toList ++ s.plain.varTypes C.prog) (ds ++ gs)).all (·≤ reachBytes) = true → X W args → W.ShapedOpen C.prog →
   Calls C.prog f args W fun e W' => ∃ v, e = .returned v ∧ s.post enc C.prog fn apart fresh handsOn again W args v W') :
  ReturnsInHanded a C os f .any (fun w args => (s.pre enc C.prog fn conds apart w args ∧ X w args) ∧ sizedMet enc C.prog fn (OpenSpec.ofChange s) apart w args) (s.post enc C.prog fn apart fresh handsOn again) := by
 refine returnsInHanded_of_calls own started noInit witness ?_
 intro w tape i _ hsh _ hok hpre hholds
 obtain ⟨_, _, _, fn', hfn', _, _, _, _, hval⟩ := hok
 have e : fn' = fn := Option.some.inj (hfn'.symm.trans hfn)
 subst e
 obtain ⟨⟨⟨ds, gs, before, hw, hc⟩, hx⟩, hz⟩ := hpre
 have hw' := DataW.Whole.of_heap (w' := w.forCall tape i) (by rfl) hw
 refine (contract (w.forCall tape i) w.heap.size i.args ds gs before hval hw' (hz.weights hw) (hX _ _ _ (by rfl) hx) hsh).mono fun e W' ⟨v, he, hp⟩ => ?_
 subst he
 exact ChangeSpec.post_blind hp
end
end Go
namespace Go.Proofs.YtdhkaolcbnihlaaGreatDoor
open Go Go.Proofs Go.RowKit Go.Sx
set_option maxRecDepth 100000
theorem jnC {H : Type} {enc : TypeId × Value → H} {P : Program} {w : World} {base fuel : Nat} {spare : Nat → Bool} {held : Bool} {t : TypeId} {cs : List Value} {x : DataW H × List MemPlace} (ht : ∃ i, P.underlying t = some (.interface i))
  (h : DataW.trod enc P w base spare held fuel t cs = some x) : cs = [.nilIface] ∨ ∃ u v, cs = [.iface u v] := by
 obtain ⟨i, ht⟩ := ht
 cases fuel with
 | zero => simp [DataW.trod] at h
 | succ n =>
  unfold DataW.trod at h
  rw [ht] at h
  split at h <;> simp_all
theorem jqO {W : World} {laid : List (String × DataW Unit)} (hp : (laid.all fun x => x.2.handleName?.isNone) = true)
  (hm : ∀ x ∈ [("internal/strconv.uint64pow10", Rows.laid_internal_strconv_uint64pow10 (H := Unit)), ("strconv.ErrRange", Rows.laid_strconv_ErrRange), ("strconv.ErrSyntax", Rows.laid_strconv_ErrSyntax)], x ∈ laid)
  (h : laidMetH Tryz.prog laid W) (hs : W.ShapedOpen Tryz.prog) : jbC (fun k => k < W.heap.size) W := by
 rw [MakeChecks.laidMetH_plain _ _ _ hp] at h
 obtain ⟨ps, hl, _, _⟩ := h
 have t2 : (Tryz.prog.globals[2]?).map (·.type) = some 144 := by kernel_rfl
 have t4 : (Tryz.prog.globals[4]?).map (·.type) = some 93 := by kernel_rfl
 have t5 : (Tryz.prog.globals[5]?).map (·.type) = some 93 := by kernel_rfl
 have hif : ∃ i, Tryz.prog.underlying 93 = some (.interface i) := ⟨_, Tryz.underlying93⟩
 refine ⟨fun g c hg => ?_, fun g p hg => ?_⟩
 ·have hg : tabZ g = some c := hg
  unfold tabZ at hg
  split at hg
  ·cases hg
   obtain ⟨g, t, cs, fuel, p, h1, h2, h3, h4⟩ := jgQ hl (hm ("internal/strconv.uint64pow10", Rows.laid_internal_strconv_uint64pow10) (by simp))
   obtain rfl := Option.some.inj ((show Tryz.prog.globalNamed "internal/strconv.uint64pow10" = some 2 by kernel_rfl).symm.trans h1)
   obtain rfl := Option.some.inj (t2.symm.trans h2)
   have hc := jpM (n := 20) (l := jpd) (e := 111) (k := .u64) (by kernel_rfl) (by kernel_rfl) (by kernel_rfl) (by kernel_rfl) rfl h4
   exact jrW h1 h3 hc
  ·cases hg
 ·have hg : joa g = some p := hg
  unfold joa at hg
  split at hg
  ·cases hg
   obtain ⟨m, hc⟩ := cell_of_shapedOpen_int (g := 3) (t := 3) (k := .i64) (zero := #[.int .i64 0]) hs (of_decide_eq_true (by kernel_rfl)) (by kernel_rfl) rfl (by kernel_rfl) (by kernel_rfl) (by kernel_rfl)
   exact ⟨World.block_lt_of_cell? W _ hc, _, hc, m, rfl⟩
  ·cases hg
   obtain ⟨g, t, cs, fuel, p, h1, h2, h3, h4⟩ := jgQ hl (hm ("strconv.ErrSyntax", Rows.laid_strconv_ErrSyntax) (by simp))
   obtain rfl := Option.some.inj ((show Tryz.prog.globalNamed "strconv.ErrSyntax" = some 4 by kernel_rfl).symm.trans h1)
   obtain rfl := Option.some.inj (t4.symm.trans h2)
   have hcell := World.var?_cell h1 h3
   rcases jnC hif h4 with e | ⟨u, v, e⟩
   ·have hc : W.cell? ⟨4, 0, none⟩ = some .nilIface := by rw [hcell 0, ← Array.getElem?_toList, e]; rfl
    exact ⟨World.block_lt_of_cell? W _ hc, _, hc, .inl rfl⟩
   ·have hc : W.cell? ⟨4, 0, none⟩ = some (.iface u v) := by rw [hcell 0, ← Array.getElem?_toList, e]; rfl
    exact ⟨World.block_lt_of_cell? W _ hc, _, hc, .inr ⟨u, v, rfl⟩⟩
  ·cases hg
   obtain ⟨g, t, cs, fuel, p, h1, h2, h3, h4⟩ := jgQ hl (hm ("strconv.ErrRange", Rows.laid_strconv_ErrRange) (by simp))
   obtain rfl := Option.some.inj ((show Tryz.prog.globalNamed "strconv.ErrRange" = some 5 by kernel_rfl).symm.trans h1)
   obtain rfl := Option.some.inj (t5.symm.trans h2)
   have hcell := World.var?_cell h1 h3
   rcases jnC hif h4 with e | ⟨u, v, e⟩
   ·have hc : W.cell? ⟨5, 0, none⟩ = some .nilIface := by rw [hcell 0, ← Array.getElem?_toList, e]; rfl
    exact ⟨World.block_lt_of_cell? W _ hc, _, hc, .inl rfl⟩
   ·have hc : W.cell? ⟨5, 0, none⟩ = some (.iface u v) := by rw [hcell 0, ← Array.getElem?_toList, e]; rfl
    exact ⟨World.block_lt_of_cell? W _ hc, _, hc, .inr ⟨u, v, rfl⟩⟩
  ·cases hg
end Go.Proofs.YtdhkaolcbnihlaaGreatDoor
end
