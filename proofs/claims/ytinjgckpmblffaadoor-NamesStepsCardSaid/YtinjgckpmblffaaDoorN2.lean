/- strconv.Itoa, strconv.Atoi, strings.Split at one byte, strings.Join: the kit's contracts, laid at this program (the numbers printed by lays.py). -/
import Derived.Test.YtinjgckpmblffaaDoorN1
import Derived.Shelf.Lay
import Derived.Shelf.Strconv.Itoa3
import Derived.Shelf.Strconv.AtoiAll
import Derived.Shelf.Strings.Split
import Derived.Shelf.Strings.OnBuilder
import Derived.Ground.NamesProg
import Derived.Lib.AppendIntMem
import Derived.Lib.ItoaLen
namespace Go.Proofs.YtinjgckpmblffaaDoor.Vm
open Go.RowKit Go.Shelf
set_option linter.unusedSimpArgs false
set_option linter.unusedVariables false
set_option maxRecDepth 100000
def laysLaysMn171_ren : Go.Shelf.Ren := ⟨fun | 129 => 87 | 171 => 40 | 243 => 55 | 246 => 62 | 283 => 71 | 284 => 72 | 285 => 73 | 286 => 74 | 317 => 86 | 318 => 88 | 319 => 89 | 320 => 90 | 337 => 101 | 338 => 102 | n => n, fun | 37 => 94 | 46 => 123 | 51 => 121 | 53 => 103 | 171 => 102 | 173 => 106 | 212 => 120 | 213 => 122 | 232 => 146 | 233 => 147 | n => n, fun | 17 => 0 | 18 => 6 | 19 => 7 | n => n⟩
theorem laysLaysMn171 : LaysM.n171 Tryd.prog laysLaysMn171_ren where
  mixed := by kernel_rfl
  f129 := Tryd.func87.trans (congrArg some (by kernel_rfl))
  f171 := Tryd.func40.trans (congrArg some (by kernel_rfl))
  f243 := Tryd.func55.trans (congrArg some (by kernel_rfl))
  f246 := Tryd.func62.trans (congrArg some (by kernel_rfl))
  f283 := Tryd.func71.trans (congrArg some (by kernel_rfl))
  f284 := Tryd.func72.trans (congrArg some (by kernel_rfl))
  f285 := Tryd.func73.trans (congrArg some (by kernel_rfl))
  f286 := Tryd.func74.trans (congrArg some (by kernel_rfl))
  f317 := Tryd.func86.trans (congrArg some (by kernel_rfl))
  f318 := Tryd.func88.trans (congrArg some (by kernel_rfl))
  f319 := Tryd.func89.trans (congrArg some (by kernel_rfl))
  f320 := Tryd.func90.trans (congrArg some (by kernel_rfl))
  f337 := Tryd.func101.trans (congrArg some (by kernel_rfl))
  f338 := Tryd.func102.trans (congrArg some (by kernel_rfl))
  t0 := Tryd.underlying0
  a0 := Tryd.isAgg0
  z0 := Tryd.sizeOf0
  v0 := Tryd.zeroValue0
  t2 := Tryd.underlying2
  a2 := Tryd.isAgg2
  z2 := Tryd.sizeOf2
  v2 := Tryd.zeroValue2
  t3 := Tryd.underlying3
  a3 := Tryd.isAgg3
  z3 := Tryd.sizeOf3
  v3 := Tryd.zeroValue3
  t4 := Tryd.underlying4
  a4 := Tryd.isAgg4
  z4 := Tryd.sizeOf4
  v4 := Tryd.zeroValue4
  t5 := Tryd.underlying5
  a5 := Tryd.isAgg5
  z5 := Tryd.sizeOf5
  v5 := Tryd.zeroValue5
  t9 := Tryd.underlying9
  a9 := Tryd.isAgg9
  z9 := Tryd.sizeOf9
  v9 := Tryd.zeroValue9
  t20 := Tryd.underlying20
  a20 := Tryd.isAgg20
  z20 := Tryd.sizeOf20
  v20 := Tryd.zeroValue20
  t37 := Tryd.underlying94
  a37 := Tryd.isAgg94
  z37 := Tryd.sizeOf94
  v37 := Tryd.zeroValue94
  t46 := Tryd.underlying123
  a46 := Tryd.isAgg123
  z46 := Tryd.sizeOf123
  v46 := Tryd.zeroValue123
  t51 := Tryd.underlying121
  a51 := Tryd.isAgg121
  z51 := Tryd.sizeOf121
  v51 := Tryd.zeroValue121
  t53 := Tryd.underlying103
  a53 := Tryd.isAgg103
  z53 := Tryd.sizeOf103
  v53 := Tryd.zeroValue103
  t171 := Tryd.underlying102
  a171 := Tryd.isAgg102
  z171 := Tryd.sizeOf102
  v171 := Tryd.zeroValue102
  t173 := Tryd.underlying106
  a173 := Tryd.isAgg106
  z173 := Tryd.sizeOf106
  v173 := Tryd.zeroValue106
  t212 := Tryd.underlying120
  a212 := Tryd.isAgg120
  z212 := Tryd.sizeOf120
  v212 := Tryd.zeroValue120
  t213 := Tryd.underlying122
  a213 := Tryd.isAgg122
  z213 := Tryd.sizeOf122
  t232 := Tryd.underlying146
  a232 := Tryd.isAgg146
  z232 := Tryd.sizeOf146
  v232 := Tryd.zeroValue146
  t233 := Tryd.underlying147
  a233 := Tryd.isAgg147
  z233 := Tryd.sizeOf147
  v233 := Tryd.zeroValue147
  g17 := by kernel_rfl
  g18 := by kernel_rfl
  g19 := by kernel_rfl
  i0 := by kernel_rfl
  i2 := by kernel_rfl
  i3 := by kernel_rfl
  i4 := by kernel_rfl
  i5 := by kernel_rfl
  i9 := by kernel_rfl
  i20 := by kernel_rfl
  i37 := by kernel_rfl
  i46 := by kernel_rfl
  i51 := by kernel_rfl
  i53 := by kernel_rfl
  i171 := by kernel_rfl
  i173 := by kernel_rfl
  i212 := by kernel_rfl
  i232 := by kernel_rfl
  i233 := by kernel_rfl
  m17 := by kernel_rfl
  m18 := by kernel_rfl
  m19 := by kernel_rfl

def laysLaysCn172_ren : Go.Shelf.Ren := ⟨fun | 129 => 87 | 171 => 40 | 172 => 58 | 205 => 100 | 243 => 55 | 244 => 69 | 245 => 70 | 246 => 62 | 247 => 81 | 279 => 82 | 280 => 83 | 281 => 84 | 282 => 85 | 283 => 71 | 284 => 72 | 285 => 73 | 286 => 74 | 287 => 98 | 316 => 99 | 317 => 86 | 318 => 88 | 319 => 89 | 320 => 90 | 321 => 105 | 322 => 106 | 337 => 101 | 338 => 102 | n => n, fun | 37 => 94 | 46 => 123 | 51 => 121 | 53 => 103 | 75 => 88 | 76 => 89 | 80 => 98 | 85 => 114 | 127 => 108 | 167 => 113 | 168 => 116 | 171 => 102 | 173 => 106 | 175 => 128 | 210 => 132 | 212 => 120 | 213 => 122 | 232 => 146 | 233 => 147 | n => n, fun | 15 => 2 | 16 => 3 | 17 => 0 | 18 => 6 | 19 => 7 | n => n⟩
theorem laysLaysCn172 : LaysC.n172 Tryd.prog laysLaysCn172_ren where
  mixed := by kernel_rfl
  f129 := Tryd.func87.trans (congrArg some (by kernel_rfl))
  f171 := Tryd.func40.trans (congrArg some (by kernel_rfl))
  f172 := Tryd.func58.trans (congrArg some (by kernel_rfl))
  f205 := Tryd.func100.trans (congrArg some (by kernel_rfl))
  f243 := Tryd.func55.trans (congrArg some (by kernel_rfl))
  f244 := Tryd.func69.trans (congrArg some (by kernel_rfl))
  f245 := Tryd.func70.trans (congrArg some (by kernel_rfl))
  f246 := Tryd.func62.trans (congrArg some (by kernel_rfl))
  f247 := Tryd.func81.trans (congrArg some (by kernel_rfl))
  f279 := Tryd.func82.trans (congrArg some (by kernel_rfl))
  f280 := Tryd.func83.trans (congrArg some (by kernel_rfl))
  f281 := Tryd.func84.trans (congrArg some (by kernel_rfl))
  f282 := Tryd.func85.trans (congrArg some (by kernel_rfl))
  f283 := Tryd.func71.trans (congrArg some (by kernel_rfl))
  f284 := Tryd.func72.trans (congrArg some (by kernel_rfl))
  f285 := Tryd.func73.trans (congrArg some (by kernel_rfl))
  f286 := Tryd.func74.trans (congrArg some (by kernel_rfl))
  f287 := Tryd.func98.trans (congrArg some (by kernel_rfl))
  f316 := Tryd.func99.trans (congrArg some (by kernel_rfl))
  f317 := Tryd.func86.trans (congrArg some (by kernel_rfl))
  f318 := Tryd.func88.trans (congrArg some (by kernel_rfl))
  f319 := Tryd.func89.trans (congrArg some (by kernel_rfl))
  f320 := Tryd.func90.trans (congrArg some (by kernel_rfl))
  f321 := Tryd.func105.trans (congrArg some (by kernel_rfl))
  f322 := Tryd.func106.trans (congrArg some (by kernel_rfl))
  f337 := Tryd.func101.trans (congrArg some (by kernel_rfl))
  f338 := Tryd.func102.trans (congrArg some (by kernel_rfl))
  t0 := Tryd.underlying0
  a0 := Tryd.isAgg0
  z0 := Tryd.sizeOf0
  v0 := Tryd.zeroValue0
  t2 := Tryd.underlying2
  a2 := Tryd.isAgg2
  z2 := Tryd.sizeOf2
  v2 := Tryd.zeroValue2
  t3 := Tryd.underlying3
  a3 := Tryd.isAgg3
  z3 := Tryd.sizeOf3
  v3 := Tryd.zeroValue3
  t4 := Tryd.underlying4
  a4 := Tryd.isAgg4
  z4 := Tryd.sizeOf4
  v4 := Tryd.zeroValue4
  t5 := Tryd.underlying5
  a5 := Tryd.isAgg5
  z5 := Tryd.sizeOf5
  v5 := Tryd.zeroValue5
  t9 := Tryd.underlying9
  a9 := Tryd.isAgg9
  z9 := Tryd.sizeOf9
  v9 := Tryd.zeroValue9
  t20 := Tryd.underlying20
  a20 := Tryd.isAgg20
  z20 := Tryd.sizeOf20
  v20 := Tryd.zeroValue20
  t21 := Tryd.underlying21
  a21 := Tryd.isAgg21
  z21 := Tryd.sizeOf21
  v21 := Tryd.zeroValue21
  t37 := Tryd.underlying94
  a37 := Tryd.isAgg94
  z37 := Tryd.sizeOf94
  v37 := Tryd.zeroValue94
  t46 := Tryd.underlying123
  a46 := Tryd.isAgg123
  z46 := Tryd.sizeOf123
  v46 := Tryd.zeroValue123
  t51 := Tryd.underlying121
  a51 := Tryd.isAgg121
  z51 := Tryd.sizeOf121
  v51 := Tryd.zeroValue121
  t53 := Tryd.underlying103
  a53 := Tryd.isAgg103
  z53 := Tryd.sizeOf103
  v53 := Tryd.zeroValue103
  t75 := Tryd.underlying88
  a75 := Tryd.isAgg88
  z75 := Tryd.sizeOf88
  v75 := Tryd.zeroValue88
  t76 := Tryd.underlying89
  a76 := Tryd.isAgg89
  z76 := Tryd.sizeOf89
  v76 := Tryd.zeroValue89
  t85 := Tryd.underlying114
  a85 := Tryd.isAgg114
  z85 := Tryd.sizeOf114
  v85 := Tryd.zeroValue114
  t127 := Tryd.underlying108
  a127 := Tryd.isAgg108
  z127 := Tryd.sizeOf108
  v127 := Tryd.zeroValue108
  t143 := Tryd.underlying143
  a143 := Tryd.isAgg143
  z143 := Tryd.sizeOf143
  v143 := Tryd.zeroValue143
  t145 := Tryd.underlying145
  a145 := Tryd.isAgg145
  z145 := Tryd.sizeOf145
  v145 := Tryd.zeroValue145
  t167 := Tryd.underlying113
  a167 := Tryd.isAgg113
  z167 := Tryd.sizeOf113
  v167 := Tryd.zeroValue113
  t168 := Tryd.underlying116
  a168 := Tryd.isAgg116
  z168 := Tryd.sizeOf116
  v168 := Tryd.zeroValue116
  t171 := Tryd.underlying102
  a171 := Tryd.isAgg102
  z171 := Tryd.sizeOf102
  v171 := Tryd.zeroValue102
  t173 := Tryd.underlying106
  a173 := Tryd.isAgg106
  z173 := Tryd.sizeOf106
  v173 := Tryd.zeroValue106
  t175 := Tryd.underlying128
  a175 := Tryd.isAgg128
  z175 := Tryd.sizeOf128
  v175 := Tryd.zeroValue128
  t210 := Tryd.underlying132
  a210 := Tryd.isAgg132
  z210 := Tryd.sizeOf132
  v210 := Tryd.zeroValue132
  t212 := Tryd.underlying120
  a212 := Tryd.isAgg120
  z212 := Tryd.sizeOf120
  v212 := Tryd.zeroValue120
  t213 := Tryd.underlying122
  a213 := Tryd.isAgg122
  z213 := Tryd.sizeOf122
  t232 := Tryd.underlying146
  a232 := Tryd.isAgg146
  z232 := Tryd.sizeOf146
  v232 := Tryd.zeroValue146
  t233 := Tryd.underlying147
  a233 := Tryd.isAgg147
  z233 := Tryd.sizeOf147
  v233 := Tryd.zeroValue147
  g15 := by kernel_rfl
  g16 := by kernel_rfl
  g17 := by kernel_rfl
  g18 := by kernel_rfl
  g19 := by kernel_rfl
  t80 := Tryd.underlying98
  a80 := Tryd.isAgg98
  z80 := Tryd.sizeOf98
  v80 := Tryd.zeroValue98
  i0 := by kernel_rfl
  i2 := by kernel_rfl
  i3 := by kernel_rfl
  i4 := by kernel_rfl
  i5 := by kernel_rfl
  i9 := by kernel_rfl
  i20 := by kernel_rfl
  i21 := by kernel_rfl
  i37 := by kernel_rfl
  i46 := by kernel_rfl
  i51 := by kernel_rfl
  i53 := by kernel_rfl
  i75 := by kernel_rfl
  i76 := by kernel_rfl
  i80 := by kernel_rfl
  i85 := by kernel_rfl
  i127 := by kernel_rfl
  i143 := by kernel_rfl
  i145 := by kernel_rfl
  i167 := by kernel_rfl
  i168 := by kernel_rfl
  i171 := by kernel_rfl
  i173 := by kernel_rfl
  i175 := by kernel_rfl
  i210 := by kernel_rfl
  i212 := by kernel_rfl
  i232 := by kernel_rfl
  i233 := by kernel_rfl
  m15 := by kernel_rfl
  m16 := by kernel_rfl
  m17 := by kernel_rfl
  m18 := by kernel_rfl
  m19 := by kernel_rfl
  c0 := by kernel_rfl
  c2 := by kernel_rfl
  c3 := by kernel_rfl
  c4 := by kernel_rfl
  c5 := by kernel_rfl
  c9 := by kernel_rfl
  c20 := by kernel_rfl
  c21 := by kernel_rfl
  c37 := by kernel_rfl
  c46 := by kernel_rfl
  c51 := by kernel_rfl
  c53 := by kernel_rfl
  c75 := by kernel_rfl
  c76 := by kernel_rfl
  c80 := by kernel_rfl
  c85 := by kernel_rfl
  c127 := by kernel_rfl
  c143 := by kernel_rfl
  c145 := by kernel_rfl
  c167 := by kernel_rfl
  c168 := by kernel_rfl
  c171 := by kernel_rfl
  c173 := by kernel_rfl
  c175 := by kernel_rfl
  c210 := by kernel_rfl
  c212 := by kernel_rfl
  c213 := by kernel_rfl
  c232 := by kernel_rfl
  c233 := by kernel_rfl

def laysLaysn221_ren : Go.Shelf.Ren := ⟨fun | 138 => 67 | 143 => 68 | 195 => 77 | 197 => 78 | 217 => 94 | 218 => 79 | 219 => 80 | 221 => 57 | 224 => 96 | 225 => 95 | 260 => 93 | 266 => 103 | 267 => 97 | 268 => 66 | 314 => 104 | n => n, fun | 31 => 47 | 46 => 123 | 51 => 121 | 105 => 110 | 119 => 135 | 138 => 137 | 139 => 138 | 146 => 139 | n => n, fun | 3 => 4 | 4 => 5 | n => n⟩
theorem laysLaysn221 : Lays.n221 Tryd.prog laysLaysn221_ren where
  mixed := by kernel_rfl
  f138 := Tryd.func67.trans (congrArg some (by kernel_rfl))
  f143 := Tryd.func68.trans (congrArg some (by kernel_rfl))
  f195 := Tryd.func77.trans (congrArg some (by kernel_rfl))
  f197 := Tryd.func78.trans (congrArg some (by kernel_rfl))
  f217 := Tryd.func94.trans (congrArg some (by kernel_rfl))
  f218 := Tryd.func79.trans (congrArg some (by kernel_rfl))
  f219 := Tryd.func80.trans (congrArg some (by kernel_rfl))
  f221 := Tryd.func57.trans (congrArg some (by kernel_rfl))
  f224 := Tryd.func96.trans (congrArg some (by kernel_rfl))
  f225 := Tryd.func95.trans (congrArg some (by kernel_rfl))
  f260 := Tryd.func93.trans (congrArg some (by kernel_rfl))
  f266 := Tryd.func103.trans (congrArg some (by kernel_rfl))
  f267 := Tryd.func97.trans (congrArg some (by kernel_rfl))
  f268 := Tryd.func66.trans (congrArg some (by kernel_rfl))
  f314 := Tryd.func104.trans (congrArg some (by kernel_rfl))
  t0 := Tryd.underlying0
  a0 := Tryd.isAgg0
  z0 := Tryd.sizeOf0
  v0 := Tryd.zeroValue0
  t3 := Tryd.underlying3
  a3 := Tryd.isAgg3
  z3 := Tryd.sizeOf3
  v3 := Tryd.zeroValue3
  t4 := Tryd.underlying4
  a4 := Tryd.isAgg4
  z4 := Tryd.sizeOf4
  v4 := Tryd.zeroValue4
  t5 := Tryd.underlying5
  a5 := Tryd.isAgg5
  z5 := Tryd.sizeOf5
  v5 := Tryd.zeroValue5
  t9 := Tryd.underlying9
  a9 := Tryd.isAgg9
  z9 := Tryd.sizeOf9
  v9 := Tryd.zeroValue9
  t21 := Tryd.underlying21
  a21 := Tryd.isAgg21
  z21 := Tryd.sizeOf21
  v21 := Tryd.zeroValue21
  t31 := Tryd.underlying47
  a31 := Tryd.isAgg47
  z31 := Tryd.sizeOf47
  v31 := Tryd.zeroValue47
  t46 := Tryd.underlying123
  a46 := Tryd.isAgg123
  z46 := Tryd.sizeOf123
  v46 := Tryd.zeroValue123
  t51 := Tryd.underlying121
  a51 := Tryd.isAgg121
  z51 := Tryd.sizeOf121
  v51 := Tryd.zeroValue121
  t105 := Tryd.underlying110
  a105 := Tryd.isAgg110
  z105 := Tryd.sizeOf110
  v105 := Tryd.zeroValue110
  t119 := Tryd.underlying135
  a119 := Tryd.isAgg135
  z119 := Tryd.sizeOf135
  t138 := Tryd.underlying137
  a138 := Tryd.isAgg137
  z138 := Tryd.sizeOf137
  v138 := Tryd.zeroValue137
  t139 := Tryd.underlying138
  a139 := Tryd.isAgg138
  z139 := Tryd.sizeOf138
  v139 := Tryd.zeroValue138
  t146 := Tryd.underlying139
  a146 := Tryd.isAgg139
  z146 := Tryd.sizeOf139
  v146 := Tryd.zeroValue139
  g1 := by kernel_rfl
  g3 := by kernel_rfl
  g4 := by kernel_rfl

def laysLaysn143_ren : Go.Shelf.Ren := ⟨fun | 143 => 68 | 217 => 94 | 219 => 80 | 224 => 96 | 225 => 95 | 266 => 103 | 267 => 97 | 314 => 104 | n => n, fun | 46 => 123 | 51 => 121 | 146 => 139 | n => n, fun | n => n⟩
theorem laysLaysn143 : Lays.n143 Tryd.prog laysLaysn143_ren where
  mixed := by kernel_rfl
  f143 := Tryd.func68.trans (congrArg some (by kernel_rfl))
  f217 := Tryd.func94.trans (congrArg some (by kernel_rfl))
  f219 := Tryd.func80.trans (congrArg some (by kernel_rfl))
  f224 := Tryd.func96.trans (congrArg some (by kernel_rfl))
  f225 := Tryd.func95.trans (congrArg some (by kernel_rfl))
  f266 := Tryd.func103.trans (congrArg some (by kernel_rfl))
  f267 := Tryd.func97.trans (congrArg some (by kernel_rfl))
  f314 := Tryd.func104.trans (congrArg some (by kernel_rfl))
  t3 := Tryd.underlying3
  a3 := Tryd.isAgg3
  z3 := Tryd.sizeOf3
  v3 := Tryd.zeroValue3
  t4 := Tryd.underlying4
  a4 := Tryd.isAgg4
  z4 := Tryd.sizeOf4
  v4 := Tryd.zeroValue4
  t5 := Tryd.underlying5
  a5 := Tryd.isAgg5
  z5 := Tryd.sizeOf5
  v5 := Tryd.zeroValue5
  t9 := Tryd.underlying9
  a9 := Tryd.isAgg9
  z9 := Tryd.sizeOf9
  v9 := Tryd.zeroValue9
  t46 := Tryd.underlying123
  a46 := Tryd.isAgg123
  z46 := Tryd.sizeOf123
  v46 := Tryd.zeroValue123
  t51 := Tryd.underlying121
  a51 := Tryd.isAgg121
  z51 := Tryd.sizeOf121
  v51 := Tryd.zeroValue121
  t146 := Tryd.underlying139
  a146 := Tryd.isAgg139
  z146 := Tryd.sizeOf139
  v146 := Tryd.zeroValue139
  g1 := by kernel_rfl

def laysLaysn138_ren : Go.Shelf.Ren := ⟨fun | 138 => 67 | 143 => 68 | 195 => 77 | 217 => 94 | 218 => 79 | 219 => 80 | 224 => 96 | 225 => 95 | 266 => 103 | 267 => 97 | 314 => 104 | n => n, fun | 46 => 123 | 51 => 121 | 146 => 139 | n => n, fun | n => n⟩
theorem laysLaysn138 : Lays.n138 Tryd.prog laysLaysn138_ren where
  mixed := by kernel_rfl
  f138 := Tryd.func67.trans (congrArg some (by kernel_rfl))
  f143 := Tryd.func68.trans (congrArg some (by kernel_rfl))
  f195 := Tryd.func77.trans (congrArg some (by kernel_rfl))
  f217 := Tryd.func94.trans (congrArg some (by kernel_rfl))
  f218 := Tryd.func79.trans (congrArg some (by kernel_rfl))
  f219 := Tryd.func80.trans (congrArg some (by kernel_rfl))
  f224 := Tryd.func96.trans (congrArg some (by kernel_rfl))
  f225 := Tryd.func95.trans (congrArg some (by kernel_rfl))
  f266 := Tryd.func103.trans (congrArg some (by kernel_rfl))
  f267 := Tryd.func97.trans (congrArg some (by kernel_rfl))
  f314 := Tryd.func104.trans (congrArg some (by kernel_rfl))
  t0 := Tryd.underlying0
  a0 := Tryd.isAgg0
  z0 := Tryd.sizeOf0
  v0 := Tryd.zeroValue0
  t3 := Tryd.underlying3
  a3 := Tryd.isAgg3
  z3 := Tryd.sizeOf3
  v3 := Tryd.zeroValue3
  t4 := Tryd.underlying4
  a4 := Tryd.isAgg4
  z4 := Tryd.sizeOf4
  v4 := Tryd.zeroValue4
  t5 := Tryd.underlying5
  a5 := Tryd.isAgg5
  z5 := Tryd.sizeOf5
  v5 := Tryd.zeroValue5
  t9 := Tryd.underlying9
  a9 := Tryd.isAgg9
  z9 := Tryd.sizeOf9
  v9 := Tryd.zeroValue9
  t46 := Tryd.underlying123
  a46 := Tryd.isAgg123
  z46 := Tryd.sizeOf123
  v46 := Tryd.zeroValue123
  t51 := Tryd.underlying121
  a51 := Tryd.isAgg121
  z51 := Tryd.sizeOf121
  v51 := Tryd.zeroValue121
  t146 := Tryd.underlying139
  a146 := Tryd.isAgg139
  z146 := Tryd.sizeOf139
  v146 := Tryd.zeroValue139
  g1 := by kernel_rfl

def laysLaysn156_ren : Go.Shelf.Ren := ⟨fun | 156 => 56 | 165 => 63 | 166 => 64 | 169 => 65 | 240 => 75 | 241 => 76 | 276 => 91 | 277 => 92 | n => n, fun | 31 => 47 | 37 => 94 | 70 => 93 | 72 => 96 | 75 => 88 | 76 => 89 | 80 => 98 | 127 => 108 | 164 => 125 | n => n, fun | n => n⟩
theorem laysLaysn156 : Lays.n156 Tryd.prog laysLaysn156_ren where
  mixed := by kernel_rfl
  f156 := Tryd.func56.trans (congrArg some (by kernel_rfl))
  f165 := Tryd.func63.trans (congrArg some (by kernel_rfl))
  f166 := Tryd.func64.trans (congrArg some (by kernel_rfl))
  f169 := Tryd.func65.trans (congrArg some (by kernel_rfl))
  f240 := Tryd.func75.trans (congrArg some (by kernel_rfl))
  f241 := Tryd.func76.trans (congrArg some (by kernel_rfl))
  f276 := Tryd.func91.trans (congrArg some (by kernel_rfl))
  f277 := Tryd.func92.trans (congrArg some (by kernel_rfl))
  t0 := Tryd.underlying0
  a0 := Tryd.isAgg0
  z0 := Tryd.sizeOf0
  v0 := Tryd.zeroValue0
  t3 := Tryd.underlying3
  a3 := Tryd.isAgg3
  z3 := Tryd.sizeOf3
  v3 := Tryd.zeroValue3
  t4 := Tryd.underlying4
  a4 := Tryd.isAgg4
  z4 := Tryd.sizeOf4
  v4 := Tryd.zeroValue4
  t9 := Tryd.underlying9
  a9 := Tryd.isAgg9
  z9 := Tryd.sizeOf9
  v9 := Tryd.zeroValue9
  t20 := Tryd.underlying20
  a20 := Tryd.isAgg20
  z20 := Tryd.sizeOf20
  v20 := Tryd.zeroValue20
  t31 := Tryd.underlying47
  a31 := Tryd.isAgg47
  z31 := Tryd.sizeOf47
  v31 := Tryd.zeroValue47
  t37 := Tryd.underlying94
  a37 := Tryd.isAgg94
  z37 := Tryd.sizeOf94
  v37 := Tryd.zeroValue94
  t70 := Tryd.underlying93
  a70 := Tryd.isAgg93
  z70 := Tryd.sizeOf93
  v70 := Tryd.zeroValue93
  t72 := Tryd.underlying96
  a72 := Tryd.isAgg96
  z72 := Tryd.sizeOf96
  v72 := Tryd.zeroValue96
  t75 := Tryd.underlying88
  a75 := Tryd.isAgg88
  z75 := Tryd.sizeOf88
  v75 := Tryd.zeroValue88
  t76 := Tryd.underlying89
  a76 := Tryd.isAgg89
  z76 := Tryd.sizeOf89
  v76 := Tryd.zeroValue89
  t127 := Tryd.underlying108
  a127 := Tryd.isAgg108
  z127 := Tryd.sizeOf108
  v127 := Tryd.zeroValue108
  t164 := Tryd.underlying125
  a164 := Tryd.isAgg125
  z164 := Tryd.sizeOf125
  v164 := Tryd.zeroValue125

theorem repL_vs {E : Env} : ∀ {l us : List Value}, A.repL (l.map .v) E us → us = l
  | [], us, h => by unfold A.repL at h; exact h
  | x :: r, us, h => by
    simp only [List.map_cons] at h
    unfold A.repL at h
    obtain ⟨u, us', rfl, h1, h2⟩ := h
    rw [(A.rep_v_iff.1 h1).1, repL_vs h2]
theorem tab_is {w : World} {C : Rd} (h : Gok C w) (hs : Sub C w.cell?) : Lib.TabIs Tryd.prog w "internal/strconv.uint64pow10" .u64 Lib.pow10Tab := by
  have hm : (0, (List.range 20).map fun i => A.v (.int .u64 ((10 ^ i : Nat) : Int))) ∈ globs := by unfold globs; exact List.mem_cons_self
  obtain ⟨cs, T, sp, h1, h2⟩ := h.sz _ hm
  obtain ⟨us, k1, k2⟩ := A.repAt_vals (h.cs _ hm).2
  unfold Lib.TabIs World.var?
  rw [show Tryd.prog.globalNamed "internal/strconv.uint64pow10" = some 0 by kernel_rfl, Option.bind_some]
  have h1 : w.heap[0]? = some (.cells cs T sp) := h1
  rw [h1]
  have hv : us = (Lib.pow10Tab.map fun z => Value.int .u64 z) := by
    have e : ((List.range 20).map fun i => A.v (.int .u64 ((10 ^ i : Nat) : Int))) = (Lib.pow10Tab.map fun z => Value.int .u64 z).map A.v := by unfold Lib.pow10Tab; rw [List.map_map, List.map_map]; rfl
    have k1 := A.repC_L k1
    rw [e] at k1
    exact repL_vs k1
  subst hv
  show some cs = _
  refine congrArg some ?_
  apply Array.ext_getElem?
  intro i
  by_cases hi : i < cs.size
  · have hi2 : i < 20 := by rw [h2] at hi; simpa using hi
    obtain ⟨u, hu⟩ : ∃ u, (Lib.pow10Tab.map fun z => Value.int .u64 z)[i]? = some u := ⟨_, List.getElem?_eq_getElem (by simp [Lib.pow10Tab, hi2])⟩
    have := hs _ _ (k2 i u hu)
    have e2 : (List.map (fun z => Value.int IntKind.u64 z) Lib.pow10Tab).toArray[i]? = some u := by rw [List.getElem?_toArray]; exact hu
    refine Eq.trans ?_ e2.symm
    rw [← this]
    simp [World.cell?, h1]
  · rw [Array.getElem?_eq_none (by omega), List.getElem?_toArray, List.getElem?_eq_none (by rw [h2] at hi; simp [Lib.pow10Tab] at hi ⊢; exact hi)]
theorem itoa_spec (n : Int) : Spec Tryd.prog 40 [] [intA n] fun _ r => (-9223372036854775808 ≤ n ∧ n ≤ 9223372036854775807) ∧ r = strA (bs (Lib.itoa n)) := by
  refine ⟨call_of Tryd.func40 rfl (by kernel_rfl), ?_⟩
  intro w C β vals hg hsub h2 h3 h4 h5 hv
  obtain ⟨u, us, rfl, h6, h7⟩ := hv
  have e1 := (A.rep_v_iff.1 h6).1
  have hn := okV_int.1 (A.rep_v_iff.1 h6).2
  obtain rfl : us = [] := h7
  subst e1
  have hβ : β = [] := List.eq_nil_of_length_eq_zero (by simpa using h4.symm)
  subst hβ
  refine (Any.strconv_Itoa laysLaysMn171 n hn.1 hn.2 w (tab_is hg hsub)).mono ?_
  rintro e w' ⟨rfl, k, os, rfl⟩
  exact ⟨[], strA (bs (Lib.itoa n)), _, rfl, ⟨hn, rfl⟩, Keeps.of_ext (Lib.below_grow _ _ (Nat.le_refl _) k os), rfl, fun i b cs hb => by simp at hb, A.rep_v (by show (bs (Lib.itoa n)).size ≤ maxLen; rw [bs_size]; have := Lib.itoa_length_le n hn.1 hn.2; unfold maxLen; omega)⟩
/-- What Atoi hands back. -/
def atoiR (l : List UInt8) : A := match Lib.atoiAll l with
  | .ok v => .tup [intA v, .v .nilIface]
  | .range => .tup [intA (Lib.atoiSat l), .err]
  | _ => .tup [intA 0, .err]
theorem glob_err {w : World} {C : Rd} (h : Gok C w) (hs : Sub C w.cell?) {g : Nat} (hg : globAt globs g = some [.err]) : ∃ t v, w.cell? ⟨g, 0, none⟩ = some (.iface t v) := by
  have := h.at hg
  simp only [A.repAt, A.rep] at this
  obtain ⟨⟨u, k1, k2, t, v, rfl⟩, -⟩ := this
  exact ⟨t, v, hs _ _ k1⟩
theorem rep_err {E : Env} {t : Nat} {v : Value} : A.err.rep E (.iface t v) := by unfold A.rep; exact ⟨t, v, rfl⟩
theorem rep_two {E : Env} {a b : A} {x y : Value} (h1 : a.rep E x) (h2 : b.rep E y) : (A.tup [a, b]).rep E (.tuple #[x, y]) := by
  unfold A.rep
  exact ⟨_, rfl, repL_cons h1 (repL_cons h2 (by simp [A.repL]))⟩
theorem atoi_spec (s : ByteArray) (hs : s.size ≤ 1000000000) : Spec Tryd.prog 58 [] [strA s] fun _ r => r = atoiR s.data.toList := by
  refine spec_ext (call_of Tryd.func58 rfl (by kernel_rfl)) fun w C vals hg hsub hv => ?_
  obtain rfl := repL_vs (l := [.string s]) hv
  unfold atoiR
  cases h : Lib.atoiAll s.data.toList with
  | ok v =>
    obtain ⟨vb0, vb1⟩ := Lib.atoiAll_bounds h
    refine (Any.strconv_Atoi_ok laysLaysCn172 s (by omega) v h w).mono ?_
    rintro e w' ⟨rfl, hw⟩
    refine ⟨_, rfl, ?_, rep_two (A.rep_v (okV_int.2 (i64r ⟨vb0, vb1⟩))) (A.rep_v trivial)⟩
    rcases hw with rfl | ⟨t, rfl⟩
    · exact Ext.refl _
    · exact Lib.bytesWorld_below _ _ _
  | range =>
    obtain ⟨t, v, hc⟩ := glob_err hg hsub (g := 3) rfl
    refine (Any.strconv_Atoi_range laysLaysCn172 s (by omega) h _ w hc (.inr ⟨t, v, rfl⟩)).mono ?_
    rintro e w' ⟨n, rfl, k3, k4, k5⟩
    exact ⟨_, rfl, k5, rep_two (A.rep_v (okV_int.2 (i64r (by unfold Lib.atoiSat; split <;> omega)))) rep_err⟩
  | _ =>
    obtain ⟨t, v, hc⟩ := glob_err hg hsub (g := 2) rfl
    refine (Any.strconv_Atoi_syntax laysLaysCn172 s (by omega) h _ w hc (.inr ⟨t, v, rfl⟩)).mono ?_
    rintro e w' ⟨n, rfl, k3, k4, k5⟩
    exact ⟨_, rfl, k5, rep_two (A.rep_v (okV_int.2 (i64r (by omega)))) rep_err⟩
/-! ### Split at one byte -/
def splitC (c : UInt8) : List UInt8 → List (List UInt8)
  | [] => [[]]
  | x :: r => if x = c then [] :: splitC c r else match splitC c r with
    | h :: t => (x :: h) :: t
    | [] => [[x]]
theorem splitC_ne (c : UInt8) : ∀ l, splitC c l ≠ []
  | [] => by simp [splitC]
  | x :: r => by
    unfold splitC
    split
    · simp
    · split <;> simp
theorem splitK_one (c : UInt8) : ∀ (l : List UInt8), Lib.splitK [c] 0 (Lib.count l [c]) l = splitC c l
  | [] => by
    have : Lib.count [] [c] = 0 := by rw [Lib.count_one]; rfl
    rw [this]; rfl
  | x :: r => by
    by_cases hx : x = c
    · subst hx
      rw [Lib.count_cons_eq, Nat.add_comm]
      have hi : Lib.index (x :: r) [x] = 0 := by rw [Lib.index_one]; simp [Lib.indexByte]
      rw [Lib.splitK, hi]
      simp only [splitC, if_true]
      have := splitK_one x r
      simpa using this
    · rw [Lib.count_cons_ne _ _ _ hx]
      have ih := splitK_one c r
      have hi : Lib.index (x :: r) [c] = if Lib.index r [c] = -1 then -1 else Lib.index r [c] + 1 := by
        rw [Lib.index_one, Lib.index_one]
        simp only [Lib.indexByte]
        rw [if_neg (by simpa using hx)]
        simp only [beq_iff_eq]
      cases hn : Lib.count r [c] with
      | zero =>
        rw [hn] at ih
        simp only [Lib.splitK] at ih ⊢
        simp only [splitC, if_neg hx]
        rw [← ih]
      | succ k =>
        rw [hn] at ih
        simp only [Lib.splitK, beq_iff_eq] at ih ⊢
        rw [hi]
        simp only [splitC, if_neg hx]
        have hge := Lib.index_ge r [c]
        by_cases hm : Lib.index r [c] = -1
        · rw [if_pos hm] at ih
          rw [if_pos hm, if_pos rfl, ← ih]
        · rw [if_neg hm] at ih
          rw [if_neg hm, if_neg (by omega), ← ih]
          have e : (Lib.index r [c] + 1).toNat = (Lib.index r [c]).toNat + 1 := by omega
          simp only [e, List.length_singleton, Nat.add_zero]
          rw [List.take_succ_cons, show (Lib.index r [c]).toNat + 1 + 1 = ((Lib.index r [c]).toNat + 1) + 1 from rfl, List.drop_succ_cons]
theorem split_list (c : UInt8) (s : ByteArray) : Lib.splitB ⟨#[c]⟩ 0 (Lib.countB s ⟨#[c]⟩) s = (splitC c s.data.toList).map bs := by
  have h := Lib.splitB_data ⟨#[c]⟩ 0 (Lib.countB s ⟨#[c]⟩) s
  have e : Lib.countB s ⟨#[c]⟩ = Lib.count s.data.toList [c] := rfl
  have e2 : (⟨#[c]⟩ : ByteArray).data.toList = [c] := rfl
  rw [e2, e, splitK_one] at h
  rw [e, ← h, List.map_map]
  refine (List.map_id'' (fun x => ?_) _).symm
  rfl
theorem info_str : (Tryd.prog.info? 9).map (fun i => (i.zero, i.size, i.bytes)) = some (some (.string ByteArray.empty), 1, 16) := by kernel_rfl
theorem splitC_len (c : UInt8) : ∀ l : List UInt8, (splitC c l).length ≤ l.length + 1
  | [] => by simp [splitC]
  | x :: r => by
    have := splitC_len c r
    unfold splitC
    split
    · simp; omega
    · split
      · rename_i h t e
        rw [e] at this
        simp at this ⊢; omega
      · simp
theorem splitC_mem (c : UInt8) : ∀ l : List UInt8, ∀ x ∈ splitC c l, x.length ≤ l.length
  | [], x, h => by simp [splitC] at h; subst h; simp
  | y :: r, x, h => by
    have ih := splitC_mem c r
    unfold splitC at h
    split at h
    · rcases List.mem_cons.1 h with rfl | h
      · simp
      · have := ih x h
        simp; omega
    · split at h
      · rename_i a t e
        rcases List.mem_cons.1 h with rfl | h
        · have := ih a (by rw [e]; simp)
          simp; omega
        · have := ih x (by rw [e]; simp [h])
          simp; omega
      · obtain rfl := List.mem_singleton.1 h
        simp
theorem strs_repC {E : Env} : ∀ (Y : List ByteArray), (∀ x ∈ Y, x.size ≤ maxLen) → A.repC (strsA Y) E (Y.map Value.string)
  | [], _ => by simp [strsA, A.repC]
  | y :: Y, h => by
    show A.repC (strA y :: strsA Y) _ (Value.string y :: Y.map Value.string)
    unfold A.repC
    exact ⟨_, _, rfl, rfl, A.rep_v (h y (by simp)), strs_repC Y fun x hx => h x (by simp [hx])⟩
theorem gensplit_spec (s : ByteArray) (c : UInt8) (hs : s.size ≤ 1000000000) : Spec Tryd.prog 57 [] [strA s, strA ⟨#[c]⟩, intA 0, intA (-1)] fun _ r => r = .sl 1 (splitC c s.data.toList).length (strsA ((splitC c s.data.toList).map bs)) := by
  refine spec_ext (call_of Tryd.func57 rfl (by kernel_rfl)) fun w C vals hg hsub hv => ?_
  obtain rfl := repL_vs (l := [.string s, .string ⟨#[c]⟩, .int .i64 0, .int .i64 (-1)]) hv
  have h1c : 1 ≤ (⟨#[c]⟩ : ByteArray).size := Nat.le_refl 1
  have hle := Lib.countB_le ⟨#[c]⟩ h1c s.size s (Nat.le_refl _)
  have hlen := Lib.splitB_all ⟨#[c]⟩ h1c 0 _ s rfl
  have hcl := splitC_len c s.data.toList
  rw [size_len] at hcl
  have hN : ((Lib.countB s ⟨#[c]⟩ + 1 : Nat) : Int) = min (if (-1 : Int) < 0 then (Lib.countB s ⟨#[c]⟩ : Int) + 1 else -1) ((s.size : Int) + 1) := by rw [if_pos (by decide)]; omega
  refine (Any.strings_genSplit_core laysLaysn221 info_str s ⟨#[c]⟩ 0 (-1) (Lib.countB s ⟨#[c]⟩ + 1) w (by omega) h1c (Nat.zero_le _) (fun x cs hx => ?_) ?_ (by decide) (by decide) hN).mono ?_
  · refine (Any.strings_Index_one laysLaysn143 x c _).mono ?_
    rintro e w' ⟨rfl, rfl⟩
    have : Lib.indexB x ⟨#[c]⟩ = Lib.indexByte x.data.toList c := Lib.index_one _ _
    rw [this]
    exact ⟨rfl, rfl⟩
  · refine (Any.strings_Count_one laysLaysn138 s c w).mono ?_
    rintro e w' ⟨rfl, rfl⟩
    have : Lib.countB s ⟨#[c]⟩ = Lib.countByte s.data.toList c := Lib.count_one _ _
    rw [this]
    exact ⟨rfl, rfl⟩
  · rintro e w' ⟨rfl, rfl⟩
    rw [Nat.add_sub_cancel] at *
    have e3 : Lib.cellsOf (Lib.splitB ⟨#[c]⟩ 0 (Lib.countB s ⟨#[c]⟩) s) (Lib.countB s ⟨#[c]⟩ + 1) = ((Lib.splitB ⟨#[c]⟩ 0 (Lib.countB s ⟨#[c]⟩) s).map Value.string).toArray := by rw [← hlen]; exact Lib.cellsOf_full _
    rw [e3, hlen]
    rw [split_list] at *
    have hll : (splitC c s.data.toList).length = Lib.countB s ⟨#[c]⟩ + 1 := by rw [← hlen, List.length_map]
    refine ⟨_, rfl, (Ext.refl w).alloc _, ?_⟩
    rw [← hll]
    generalize hX : splitC c s.data.toList = X at *
    unfold A.rep
    refine ⟨by simp [strsA], by unfold maxLen; omega, _, w.heap.size, 0, _, rfl, Nat.le_refl _, .inr rfl, (fun h => by simp at h), ?_⟩
    refine A.repAt_mk (us := (X.map bs).map Value.string) ?_ fun j u hj => ?_
    · have hmem : ∀ x ∈ X.map bs, x.size ≤ maxLen := fun x hx => by
        obtain ⟨y, hy, rfl⟩ := List.mem_map.1 hx
        have := splitC_mem c _ y (by rw [hX]; exact hy)
        rw [size_len] at this
        rw [bs_size]; unfold maxLen; omega
      exact strs_repC _ hmem
    · show plus C w _ ⟨w.heap.size, 0 + j, none⟩ = some u
      unfold plus
      rw [if_neg (by simp), World.cell?_alloc_at _ _ _ _ (by rfl)]
      simpa using hj
theorem split_spec (s : ByteArray) (c : UInt8) (hs : s.size ≤ 1000000000) : Spec Tryd.prog 42 [] [strA s, strA ⟨#[c]⟩] fun _ r => r = .sl 1 (splitC c s.data.toList).length (strsA ((splitC c s.data.toList).map bs)) := by
  refine spec_of (cx_ok ord0 xs0 0) Tryd.func42 rfl (by kernel_rfl) rfl (by kernel_rfl) ?_
  intro _
  conv => whnf
  (refine call0 [] rfl (fun _ => gensplit_spec s c hs) ?_; rintro r rfl; conv => whnf)
/-! ### Join -/
theorem builder_extra : Builder.Extra Tryd.prog laysLaysn156_ren where
  sizeBuilder := by kernel_rfl
  liesBuilder := by kernel_rfl
  t5 := by kernel_rfl
  a5 := Tryd.isAgg5
  z5 := Tryd.sizeOf5
  v5 := Tryd.zeroValue5
  infoByte := by kernel_rfl
  cellsByte := by kernel_rfl
  sizeByte := by kernel_rfl
  neB5 := by decide
theorem join_spec (l : List (List UInt8)) (c : UInt8) (h1 : 1 ≤ l.length) (hl : l.length ≤ 1000) (hs : (Lib.join l [c]).length ≤ 1000000000) : Spec Tryd.prog 56 [] [.sl 1 l.length (strsA (l.map bs)), strA ⟨#[c]⟩] fun _ r => r = strA (bs (Lib.join l [c])) := by
  refine spec_ext (call_of Tryd.func56 rfl (by kernel_rfl)) fun w C vals hg hsub hv => ?_
  obtain ⟨u, us, rfl, k1, k2⟩ := hv
  obtain rfl := repL_vs (l := [.string ⟨#[c]⟩]) k2
  unfold A.rep at k1
  obtain ⟨j1, j2, p, b, off, cap, rfl, j3, j4, j5, j6⟩ := k1
  obtain ⟨us, m1, m2⟩ := A.repAt_vals j6
  have hus : us = (l.map bs).map Value.string := by
    have := A.repC_L m1
    have e : strsA (l.map bs) = ((l.map bs).map Value.string).map A.v := by simp [strsA, strA, Function.comp_def]
    rw [e] at this
    exact repL_vs this
  subst hus
  obtain rfl : p = some ⟨b, off, none⟩ := by
    rcases j4 with h | h
    · omega
    · exact h
  have hcells : ∀ (j : Nat) x, (l.map bs)[j]? = some x → w.cell? ⟨b, off + j, none⟩ = some (.string x) := fun j x hx => hsub _ _ (m2 j _ (by rw [List.getElem?_map, hx]; rfl))
  have hb : b < w.heap.size := by
    have := hcells 0 (bs l[0]) (by rw [List.getElem?_map, List.getElem?_eq_getElem (by omega)]; rfl)
    exact World.block_lt_of_cell? w _ this
  have ej : (l.map bs).map (·.data.toList) = l := by rw [List.map_map]; exact List.map_id'' (fun x => bs_list x) _
  have hlen : (l.map bs).length = l.length := by simp
  have := Any.strings_Join laysLaysn156 builder_extra b off cap (l.map bs) ⟨#[c]⟩ w hcells hb (by rw [hlen]; omega) (by rw [hlen]; exact j3) (by rw [ej]; show (Lib.join l [c]).length ≤ _; omega)
  rw [hlen, ej] at this
  refine this.mono ?_
  rintro e w' ⟨rfl, hw⟩
  exact ⟨_, rfl, hw, A.rep_v (by show (bs (Lib.join l [c])).size ≤ maxLen; rw [bs_size]; unfold maxLen; omega)⟩
end Go.Proofs.YtinjgckpmblffaaDoor.Vm
