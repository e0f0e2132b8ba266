import Derived.Test.YtjofegjiakjjhaaDoorMScu
import Derived.Ground.NamesProg
import Derived.Shelf.Strconv.Itoa3
import Derived.Shelf.Strings.Builder1
import Derived.Shelf.Strings.OnBuilder
import Derived.Shelf.Strings.Split
import Derived.Shelf.Strings.Prefix
import Derived.Shelf.Strconv.AtoiAll
import Derived.Lib.AppendIntMem
import Derived.Lib.SmallJoins
import Derived.Great.BuildSlice
import Derived.Deep.DeepCutAuto
import Derived.Laws.CopyOwn
/- Script: the library's contracts, laid: Itoa, Join, Split, TrimPrefix, strings.Builder. -/
namespace Go.Proofs
open Go.Shelf
def Tryd.lays171_ren : Go.Shelf.Ren := ⟨fun | 171 => 35 | 243 => 54 | 246 => 65 | 283 => 81 | 284 => 82 | 285 => 83 | 286 => 84 | 129 => 93 | 317 => 92 | 318 => 94 | 319 => 95 | 320 => 96 | 337 => 99 | 338 => 100 | n => n, fun | 3 => 3 | 9 => 9 | 2 => 2 | 4 => 4 | 171 => 121 | 0 => 0 | 53 => 22 | 37 => 35 | 5 => 5 | 173 => 124 | 212 => 132 | 51 => 133 | 20 => 20 | 213 => 134 | 46 => 118 | 232 => 147 | 233 => 148 | n => n, fun | 17 => 3 | 18 => 6 | 19 => 7 | n => n⟩
theorem Tryd.lays171 : Go.Proofs.LaysM.n171 Tryd.prog Tryd.lays171_ren where
  mixed := by kernel_rfl
  f129 := Tryd.func93.trans (congrArg some (by kernel_rfl))
  f171 := Tryd.func35.trans (congrArg some (by kernel_rfl))
  f243 := Tryd.func54.trans (congrArg some (by kernel_rfl))
  f246 := Tryd.func65.trans (congrArg some (by kernel_rfl))
  f283 := Tryd.func81.trans (congrArg some (by kernel_rfl))
  f284 := Tryd.func82.trans (congrArg some (by kernel_rfl))
  f285 := Tryd.func83.trans (congrArg some (by kernel_rfl))
  f286 := Tryd.func84.trans (congrArg some (by kernel_rfl))
  f317 := Tryd.func92.trans (congrArg some (by kernel_rfl))
  f318 := Tryd.func94.trans (congrArg some (by kernel_rfl))
  f319 := Tryd.func95.trans (congrArg some (by kernel_rfl))
  f320 := Tryd.func96.trans (congrArg some (by kernel_rfl))
  f337 := Tryd.func99.trans (congrArg some (by kernel_rfl))
  f338 := Tryd.func100.trans (congrArg some (by kernel_rfl))
  t0 := Tryd.underlying0
  a0 := Tryd.isAgg0
  z0 := Tryd.sizeOf0
  v0 := Tryd.zeroValue0
  t2 := Tryd.underlying2
  a2 := Tryd.isAgg2
  z2 := Tryd.sizeOf2
  v2 := Tryd.zeroValue2
  t3 := Tryd.underlying3
  a3 := Tryd.isAgg3
  z3 := Tryd.sizeOf3
  v3 := Tryd.zeroValue3
  t4 := Tryd.underlying4
  a4 := Tryd.isAgg4
  z4 := Tryd.sizeOf4
  v4 := Tryd.zeroValue4
  t5 := Tryd.underlying5
  a5 := Tryd.isAgg5
  z5 := Tryd.sizeOf5
  v5 := Tryd.zeroValue5
  t9 := Tryd.underlying9
  a9 := Tryd.isAgg9
  z9 := Tryd.sizeOf9
  v9 := Tryd.zeroValue9
  t20 := Tryd.underlying20
  a20 := Tryd.isAgg20
  z20 := Tryd.sizeOf20
  v20 := Tryd.zeroValue20
  t37 := Tryd.underlying35
  a37 := Tryd.isAgg35
  z37 := Tryd.sizeOf35
  v37 := Tryd.zeroValue35
  t46 := Tryd.underlying118
  a46 := Tryd.isAgg118
  z46 := Tryd.sizeOf118
  v46 := Tryd.zeroValue118
  t51 := Tryd.underlying133
  a51 := Tryd.isAgg133
  z51 := Tryd.sizeOf133
  v51 := Tryd.zeroValue133
  t53 := Tryd.underlying22
  a53 := Tryd.isAgg22
  z53 := Tryd.sizeOf22
  v53 := Tryd.zeroValue22
  t171 := Tryd.underlying121
  a171 := Tryd.isAgg121
  z171 := Tryd.sizeOf121
  v171 := Tryd.zeroValue121
  t173 := Tryd.underlying124
  a173 := Tryd.isAgg124
  z173 := Tryd.sizeOf124
  v173 := Tryd.zeroValue124
  t212 := Tryd.underlying132
  a212 := Tryd.isAgg132
  z212 := Tryd.sizeOf132
  v212 := Tryd.zeroValue132
  t213 := Tryd.underlying134
  a213 := Tryd.isAgg134
  z213 := Tryd.sizeOf134
  t232 := Tryd.underlying147
  a232 := Tryd.isAgg147
  z232 := Tryd.sizeOf147
  v232 := Tryd.zeroValue147
  t233 := Tryd.underlying148
  a233 := Tryd.isAgg148
  z233 := Tryd.sizeOf148
  v233 := Tryd.zeroValue148
  g17 := by kernel_rfl
  g18 := by kernel_rfl
  g19 := by kernel_rfl
  i0 := by kernel_rfl
  i2 := by kernel_rfl
  i3 := by kernel_rfl
  i4 := by kernel_rfl
  i5 := by kernel_rfl
  i9 := by kernel_rfl
  i20 := by kernel_rfl
  i37 := by kernel_rfl
  i46 := by kernel_rfl
  i51 := by kernel_rfl
  i53 := by kernel_rfl
  i171 := by kernel_rfl
  i173 := by kernel_rfl
  i212 := by kernel_rfl
  i232 := by kernel_rfl
  i233 := by kernel_rfl
  m17 := by kernel_rfl
  m18 := by kernel_rfl
  m19 := by kernel_rfl

def Tryd.lays156_ren : Go.Shelf.Ren := ⟨fun | 156 => 27 | 165 => 46 | 166 => 39 | 169 => 41 | 240 => 56 | 241 => 57 | 276 => 67 | 277 => 68 | n => n, fun | 31 => 36 | 9 => 9 | 3 => 3 | 4 => 4 | 0 => 0 | 20 => 20 | 72 => 78 | 76 => 81 | 70 => 76 | 37 => 35 | 75 => 80 | 127 => 100 | 164 => 105 | 5 => 5 | 80 => 84 | n => n, fun | n => n⟩
theorem Tryd.lays156 : Go.Proofs.Lays.n156 Tryd.prog Tryd.lays156_ren where
  mixed := by kernel_rfl
  f156 := Tryd.func27.trans (congrArg some (by kernel_rfl))
  f165 := Tryd.func46.trans (congrArg some (by kernel_rfl))
  f166 := Tryd.func39.trans (congrArg some (by kernel_rfl))
  f169 := Tryd.func41.trans (congrArg some (by kernel_rfl))
  f240 := Tryd.func56.trans (congrArg some (by kernel_rfl))
  f241 := Tryd.func57.trans (congrArg some (by kernel_rfl))
  f276 := Tryd.func67.trans (congrArg some (by kernel_rfl))
  f277 := Tryd.func68.trans (congrArg some (by kernel_rfl))
  t0 := Tryd.underlying0
  a0 := Tryd.isAgg0
  z0 := Tryd.sizeOf0
  v0 := Tryd.zeroValue0
  t3 := Tryd.underlying3
  a3 := Tryd.isAgg3
  z3 := Tryd.sizeOf3
  v3 := Tryd.zeroValue3
  t4 := Tryd.underlying4
  a4 := Tryd.isAgg4
  z4 := Tryd.sizeOf4
  v4 := Tryd.zeroValue4
  t9 := Tryd.underlying9
  a9 := Tryd.isAgg9
  z9 := Tryd.sizeOf9
  v9 := Tryd.zeroValue9
  t20 := Tryd.underlying20
  a20 := Tryd.isAgg20
  z20 := Tryd.sizeOf20
  v20 := Tryd.zeroValue20
  t31 := Tryd.underlying36
  a31 := Tryd.isAgg36
  z31 := Tryd.sizeOf36
  v31 := Tryd.zeroValue36
  t37 := Tryd.underlying35
  a37 := Tryd.isAgg35
  z37 := Tryd.sizeOf35
  v37 := Tryd.zeroValue35
  t70 := Tryd.underlying76
  a70 := Tryd.isAgg76
  z70 := Tryd.sizeOf76
  v70 := Tryd.zeroValue76
  t72 := Tryd.underlying78
  a72 := Tryd.isAgg78
  z72 := Tryd.sizeOf78
  v72 := Tryd.zeroValue78
  t75 := Tryd.underlying80
  a75 := Tryd.isAgg80
  z75 := Tryd.sizeOf80
  v75 := Tryd.zeroValue80
  t76 := Tryd.underlying81
  a76 := Tryd.isAgg81
  z76 := Tryd.sizeOf81
  v76 := Tryd.zeroValue81
  t127 := Tryd.underlying100
  a127 := Tryd.isAgg100
  z127 := Tryd.sizeOf100
  v127 := Tryd.zeroValue100
  t164 := Tryd.underlying105
  a164 := Tryd.isAgg105
  z164 := Tryd.sizeOf105
  v164 := Tryd.zeroValue105

def Tryd.lays146_ren : Go.Shelf.Ren := ⟨fun | 146 => 31 | 221 => 48 | 268 => 58 | 138 => 59 | 143 => 60 | 195 => 69 | 197 => 70 | 218 => 71 | 219 => 72 | 260 => 85 | 217 => 86 | 225 => 87 | 224 => 88 | 267 => 89 | 266 => 97 | 314 => 98 | n => n, fun | 9 => 9 | 31 => 36 | 3 => 3 | 4 => 4 | 0 => 0 | 105 => 108 | 21 => 21 | 5 => 5 | 46 => 118 | 119 => 137 | 139 => 140 | 138 => 139 | 146 => 141 | 51 => 133 | n => n, fun | 1 => 0 | 3 => 4 | 4 => 5 | n => n⟩
theorem Tryd.lays146 : Go.Proofs.Lays.n146 Tryd.prog Tryd.lays146_ren where
  mixed := by kernel_rfl
  f138 := Tryd.func59.trans (congrArg some (by kernel_rfl))
  f143 := Tryd.func60.trans (congrArg some (by kernel_rfl))
  f146 := Tryd.func31.trans (congrArg some (by kernel_rfl))
  f195 := Tryd.func69.trans (congrArg some (by kernel_rfl))
  f197 := Tryd.func70.trans (congrArg some (by kernel_rfl))
  f217 := Tryd.func86.trans (congrArg some (by kernel_rfl))
  f218 := Tryd.func71.trans (congrArg some (by kernel_rfl))
  f219 := Tryd.func72.trans (congrArg some (by kernel_rfl))
  f221 := Tryd.func48.trans (congrArg some (by kernel_rfl))
  f224 := Tryd.func88.trans (congrArg some (by kernel_rfl))
  f225 := Tryd.func87.trans (congrArg some (by kernel_rfl))
  f260 := Tryd.func85.trans (congrArg some (by kernel_rfl))
  f266 := Tryd.func97.trans (congrArg some (by kernel_rfl))
  f267 := Tryd.func89.trans (congrArg some (by kernel_rfl))
  f268 := Tryd.func58.trans (congrArg some (by kernel_rfl))
  f314 := Tryd.func98.trans (congrArg some (by kernel_rfl))
  t0 := Tryd.underlying0
  a0 := Tryd.isAgg0
  z0 := Tryd.sizeOf0
  v0 := Tryd.zeroValue0
  t3 := Tryd.underlying3
  a3 := Tryd.isAgg3
  z3 := Tryd.sizeOf3
  v3 := Tryd.zeroValue3
  t4 := Tryd.underlying4
  a4 := Tryd.isAgg4
  z4 := Tryd.sizeOf4
  v4 := Tryd.zeroValue4
  t5 := Tryd.underlying5
  a5 := Tryd.isAgg5
  z5 := Tryd.sizeOf5
  v5 := Tryd.zeroValue5
  t9 := Tryd.underlying9
  a9 := Tryd.isAgg9
  z9 := Tryd.sizeOf9
  v9 := Tryd.zeroValue9
  t21 := Tryd.underlying21
  a21 := Tryd.isAgg21
  z21 := Tryd.sizeOf21
  v21 := Tryd.zeroValue21
  t31 := Tryd.underlying36
  a31 := Tryd.isAgg36
  z31 := Tryd.sizeOf36
  v31 := Tryd.zeroValue36
  t46 := Tryd.underlying118
  a46 := Tryd.isAgg118
  z46 := Tryd.sizeOf118
  v46 := Tryd.zeroValue118
  t51 := Tryd.underlying133
  a51 := Tryd.isAgg133
  z51 := Tryd.sizeOf133
  v51 := Tryd.zeroValue133
  t105 := Tryd.underlying108
  a105 := Tryd.isAgg108
  z105 := Tryd.sizeOf108
  v105 := Tryd.zeroValue108
  t119 := Tryd.underlying137
  a119 := Tryd.isAgg137
  z119 := Tryd.sizeOf137
  t138 := Tryd.underlying139
  a138 := Tryd.isAgg139
  z138 := Tryd.sizeOf139
  v138 := Tryd.zeroValue139
  t139 := Tryd.underlying140
  a139 := Tryd.isAgg140
  z139 := Tryd.sizeOf140
  v139 := Tryd.zeroValue140
  t146 := Tryd.underlying141
  a146 := Tryd.isAgg141
  z146 := Tryd.sizeOf141
  v146 := Tryd.zeroValue141
  g1 := by kernel_rfl
  g3 := by kernel_rfl
  g4 := by kernel_rfl

def Tryd.lays172_ren : Go.Shelf.Ren := ⟨fun | 172 => 49 | 244 => 61 | 245 => 62 | 247 => 73 | 279 => 74 | 280 => 75 | 281 => 76 | 282 => 77 | 287 => 63 | 316 => 90 | 171 => 35 | 205 => 91 | 321 => 78 | 322 => 79 | 243 => 54 | 246 => 65 | 283 => 81 | 284 => 82 | 285 => 83 | 286 => 84 | 129 => 93 | 317 => 92 | 318 => 94 | 319 => 95 | 320 => 96 | 337 => 99 | 338 => 100 | n => n, fun | 9 => 9 | 3 => 3 | 75 => 80 | 76 => 81 | 4 => 4 | 5 => 5 | 167 => 111 | 37 => 35 | 0 => 0 | 85 => 112 | 2 => 2 | 168 => 114 | 53 => 22 | 175 => 94 | 46 => 118 | 210 => 129 | 127 => 100 | 145 => 145 | 143 => 143 | 21 => 21 | 171 => 121 | 173 => 124 | 212 => 132 | 51 => 133 | 20 => 20 | 213 => 134 | 232 => 147 | 233 => 148 | 80 => 84 | n => n, fun | 15 => 1 | 16 => 2 | 17 => 3 | 18 => 6 | 19 => 7 | n => n⟩
theorem Tryd.lays172 : Go.Proofs.LaysC.n172 Tryd.prog Tryd.lays172_ren where
  mixed := by kernel_rfl
  f129 := Tryd.func93.trans (congrArg some (by kernel_rfl))
  f171 := Tryd.func35.trans (congrArg some (by kernel_rfl))
  f172 := Tryd.func49.trans (congrArg some (by kernel_rfl))
  f205 := Tryd.func91.trans (congrArg some (by kernel_rfl))
  f243 := Tryd.func54.trans (congrArg some (by kernel_rfl))
  f244 := Tryd.func61.trans (congrArg some (by kernel_rfl))
  f245 := Tryd.func62.trans (congrArg some (by kernel_rfl))
  f246 := Tryd.func65.trans (congrArg some (by kernel_rfl))
  f247 := Tryd.func73.trans (congrArg some (by kernel_rfl))
  f279 := Tryd.func74.trans (congrArg some (by kernel_rfl))
  f280 := Tryd.func75.trans (congrArg some (by kernel_rfl))
  f281 := Tryd.func76.trans (congrArg some (by kernel_rfl))
  f282 := Tryd.func77.trans (congrArg some (by kernel_rfl))
  f283 := Tryd.func81.trans (congrArg some (by kernel_rfl))
  f284 := Tryd.func82.trans (congrArg some (by kernel_rfl))
  f285 := Tryd.func83.trans (congrArg some (by kernel_rfl))
  f286 := Tryd.func84.trans (congrArg some (by kernel_rfl))
  f287 := Tryd.func63.trans (congrArg some (by kernel_rfl))
  f316 := Tryd.func90.trans (congrArg some (by kernel_rfl))
  f317 := Tryd.func92.trans (congrArg some (by kernel_rfl))
  f318 := Tryd.func94.trans (congrArg some (by kernel_rfl))
  f319 := Tryd.func95.trans (congrArg some (by kernel_rfl))
  f320 := Tryd.func96.trans (congrArg some (by kernel_rfl))
  f321 := Tryd.func78.trans (congrArg some (by kernel_rfl))
  f322 := Tryd.func79.trans (congrArg some (by kernel_rfl))
  f337 := Tryd.func99.trans (congrArg some (by kernel_rfl))
  f338 := Tryd.func100.trans (congrArg some (by kernel_rfl))
  t0 := Tryd.underlying0
  a0 := Tryd.isAgg0
  z0 := Tryd.sizeOf0
  v0 := Tryd.zeroValue0
  t2 := Tryd.underlying2
  a2 := Tryd.isAgg2
  z2 := Tryd.sizeOf2
  v2 := Tryd.zeroValue2
  t3 := Tryd.underlying3
  a3 := Tryd.isAgg3
  z3 := Tryd.sizeOf3
  v3 := Tryd.zeroValue3
  t4 := Tryd.underlying4
  a4 := Tryd.isAgg4
  z4 := Tryd.sizeOf4
  v4 := Tryd.zeroValue4
  t5 := Tryd.underlying5
  a5 := Tryd.isAgg5
  z5 := Tryd.sizeOf5
  v5 := Tryd.zeroValue5
  t9 := Tryd.underlying9
  a9 := Tryd.isAgg9
  z9 := Tryd.sizeOf9
  v9 := Tryd.zeroValue9
  t20 := Tryd.underlying20
  a20 := Tryd.isAgg20
  z20 := Tryd.sizeOf20
  v20 := Tryd.zeroValue20
  t21 := Tryd.underlying21
  a21 := Tryd.isAgg21
  z21 := Tryd.sizeOf21
  v21 := Tryd.zeroValue21
  t37 := Tryd.underlying35
  a37 := Tryd.isAgg35
  z37 := Tryd.sizeOf35
  v37 := Tryd.zeroValue35
  t46 := Tryd.underlying118
  a46 := Tryd.isAgg118
  z46 := Tryd.sizeOf118
  v46 := Tryd.zeroValue118
  t51 := Tryd.underlying133
  a51 := Tryd.isAgg133
  z51 := Tryd.sizeOf133
  v51 := Tryd.zeroValue133
  t53 := Tryd.underlying22
  a53 := Tryd.isAgg22
  z53 := Tryd.sizeOf22
  v53 := Tryd.zeroValue22
  t75 := Tryd.underlying80
  a75 := Tryd.isAgg80
  z75 := Tryd.sizeOf80
  v75 := Tryd.zeroValue80
  t76 := Tryd.underlying81
  a76 := Tryd.isAgg81
  z76 := Tryd.sizeOf81
  v76 := Tryd.zeroValue81
  t85 := Tryd.underlying112
  a85 := Tryd.isAgg112
  z85 := Tryd.sizeOf112
  v85 := Tryd.zeroValue112
  t127 := Tryd.underlying100
  a127 := Tryd.isAgg100
  z127 := Tryd.sizeOf100
  v127 := Tryd.zeroValue100
  t143 := Tryd.underlying143
  a143 := Tryd.isAgg143
  z143 := Tryd.sizeOf143
  v143 := Tryd.zeroValue143
  t145 := Tryd.underlying145
  a145 := Tryd.isAgg145
  z145 := Tryd.sizeOf145
  v145 := Tryd.zeroValue145
  t167 := Tryd.underlying111
  a167 := Tryd.isAgg111
  z167 := Tryd.sizeOf111
  v167 := Tryd.zeroValue111
  t168 := Tryd.underlying114
  a168 := Tryd.isAgg114
  z168 := Tryd.sizeOf114
  v168 := Tryd.zeroValue114
  t171 := Tryd.underlying121
  a171 := Tryd.isAgg121
  z171 := Tryd.sizeOf121
  v171 := Tryd.zeroValue121
  t173 := Tryd.underlying124
  a173 := Tryd.isAgg124
  z173 := Tryd.sizeOf124
  v173 := Tryd.zeroValue124
  t175 := Tryd.underlying94
  a175 := Tryd.isAgg94
  z175 := Tryd.sizeOf94
  v175 := Tryd.zeroValue94
  t210 := Tryd.underlying129
  a210 := Tryd.isAgg129
  z210 := Tryd.sizeOf129
  v210 := Tryd.zeroValue129
  t212 := Tryd.underlying132
  a212 := Tryd.isAgg132
  z212 := Tryd.sizeOf132
  v212 := Tryd.zeroValue132
  t213 := Tryd.underlying134
  a213 := Tryd.isAgg134
  z213 := Tryd.sizeOf134
  t232 := Tryd.underlying147
  a232 := Tryd.isAgg147
  z232 := Tryd.sizeOf147
  v232 := Tryd.zeroValue147
  t233 := Tryd.underlying148
  a233 := Tryd.isAgg148
  z233 := Tryd.sizeOf148
  v233 := Tryd.zeroValue148
  g15 := by kernel_rfl
  g16 := by kernel_rfl
  g17 := by kernel_rfl
  g18 := by kernel_rfl
  g19 := by kernel_rfl
  t80 := Tryd.underlying84
  a80 := Tryd.isAgg84
  z80 := Tryd.sizeOf84
  v80 := Tryd.zeroValue84
  i0 := by kernel_rfl
  i2 := by kernel_rfl
  i3 := by kernel_rfl
  i4 := by kernel_rfl
  i5 := by kernel_rfl
  i9 := by kernel_rfl
  i20 := by kernel_rfl
  i21 := by kernel_rfl
  i37 := by kernel_rfl
  i46 := by kernel_rfl
  i51 := by kernel_rfl
  i53 := by kernel_rfl
  i75 := by kernel_rfl
  i76 := by kernel_rfl
  i80 := by kernel_rfl
  i85 := by kernel_rfl
  i127 := by kernel_rfl
  i143 := by kernel_rfl
  i145 := by kernel_rfl
  i167 := by kernel_rfl
  i168 := by kernel_rfl
  i171 := by kernel_rfl
  i173 := by kernel_rfl
  i175 := by kernel_rfl
  i210 := by kernel_rfl
  i212 := by kernel_rfl
  i232 := by kernel_rfl
  i233 := by kernel_rfl
  m15 := by kernel_rfl
  m16 := by kernel_rfl
  m17 := by kernel_rfl
  m18 := by kernel_rfl
  m19 := by kernel_rfl
  c0 := by kernel_rfl
  c2 := by kernel_rfl
  c3 := by kernel_rfl
  c4 := by kernel_rfl
  c5 := by kernel_rfl
  c9 := by kernel_rfl
  c20 := by kernel_rfl
  c21 := by kernel_rfl
  c37 := by kernel_rfl
  c46 := by kernel_rfl
  c51 := by kernel_rfl
  c53 := by kernel_rfl
  c75 := by kernel_rfl
  c76 := by kernel_rfl
  c80 := by kernel_rfl
  c85 := by kernel_rfl
  c127 := by kernel_rfl
  c143 := by kernel_rfl
  c145 := by kernel_rfl
  c167 := by kernel_rfl
  c168 := by kernel_rfl
  c171 := by kernel_rfl
  c173 := by kernel_rfl
  c175 := by kernel_rfl
  c210 := by kernel_rfl
  c212 := by kernel_rfl
  c213 := by kernel_rfl
  c232 := by kernel_rfl
  c233 := by kernel_rfl

def Tryd.lays101_ren : Go.Shelf.Ren := ⟨fun | 101 => 51 | 208 => 64 | 206 => 80 | n => n, fun | 9 => 9 | 4 => 4 | 3 => 3 | n => n, fun | n => n⟩
theorem Tryd.lays101 : Go.Proofs.Lays.n101 Tryd.prog Tryd.lays101_ren where
  mixed := by kernel_rfl
  f101 := Tryd.func51.trans (congrArg some (by kernel_rfl))
  f206 := Tryd.func80.trans (congrArg some (by kernel_rfl))
  f208 := Tryd.func64.trans (congrArg some (by kernel_rfl))
  t3 := Tryd.underlying3
  a3 := Tryd.isAgg3
  z3 := Tryd.sizeOf3
  v3 := Tryd.zeroValue3
  t4 := Tryd.underlying4
  a4 := Tryd.isAgg4
  z4 := Tryd.sizeOf4
  v4 := Tryd.zeroValue4
  t9 := Tryd.underlying9
  a9 := Tryd.isAgg9
  z9 := Tryd.sizeOf9
  v9 := Tryd.zeroValue9

def Tryd.lays166_ren : Go.Shelf.Ren := ⟨fun | 166 => 39 | 240 => 56 | 276 => 67 | n => n, fun | 37 => 35 | 70 => 76 | 72 => 78 | 75 => 80 | 80 => 84 | 164 => 105 | n => n, fun | n => n⟩
theorem Tryd.lays166 : Lays.n166 Tryd.prog Tryd.lays166_ren where
  mixed := by kernel_rfl
  f166 := Tryd.func39.trans (congrArg some (by kernel_rfl))
  f240 := Tryd.func56.trans (congrArg some (by kernel_rfl))
  f276 := Tryd.func67.trans (congrArg some (by kernel_rfl))
  t0 := Tryd.underlying0
  a0 := Tryd.isAgg0
  z0 := Tryd.sizeOf0
  v0 := Tryd.zeroValue0
  t3 := Tryd.underlying3
  a3 := Tryd.isAgg3
  z3 := Tryd.sizeOf3
  v3 := Tryd.zeroValue3
  t4 := Tryd.underlying4
  a4 := Tryd.isAgg4
  z4 := Tryd.sizeOf4
  v4 := Tryd.zeroValue4
  t9 := Tryd.underlying9
  a9 := Tryd.isAgg9
  z9 := Tryd.sizeOf9
  v9 := Tryd.zeroValue9
  t20 := Tryd.underlying20
  a20 := Tryd.isAgg20
  z20 := Tryd.sizeOf20
  v20 := Tryd.zeroValue20
  t37 := Tryd.underlying35
  a37 := Tryd.isAgg35
  z37 := Tryd.sizeOf35
  v37 := Tryd.zeroValue35
  t70 := Tryd.underlying76
  a70 := Tryd.isAgg76
  z70 := Tryd.sizeOf76
  v70 := Tryd.zeroValue76
  t72 := Tryd.underlying78
  a72 := Tryd.isAgg78
  z72 := Tryd.sizeOf78
  v72 := Tryd.zeroValue78
  t75 := Tryd.underlying80
  a75 := Tryd.isAgg80
  z75 := Tryd.sizeOf80
  v75 := Tryd.zeroValue80
  t164 := Tryd.underlying105
  a164 := Tryd.isAgg105
  z164 := Tryd.sizeOf105
  v164 := Tryd.zeroValue105

def Tryd.lays167_ren : Go.Shelf.Ren := ⟨fun | 167 => 40 | 240 => 56 | 276 => 67 | n => n, fun | 37 => 35 | 70 => 76 | 72 => 78 | 75 => 80 | 80 => 84 | 164 => 105 | n => n, fun | n => n⟩
theorem Tryd.lays167 : Lays.n167 Tryd.prog Tryd.lays167_ren where
  mixed := by kernel_rfl
  f167 := Tryd.func40.trans (congrArg some (by kernel_rfl))
  f240 := Tryd.func56.trans (congrArg some (by kernel_rfl))
  f276 := Tryd.func67.trans (congrArg some (by kernel_rfl))
  t0 := Tryd.underlying0
  a0 := Tryd.isAgg0
  z0 := Tryd.sizeOf0
  v0 := Tryd.zeroValue0
  t4 := Tryd.underlying4
  a4 := Tryd.isAgg4
  z4 := Tryd.sizeOf4
  v4 := Tryd.zeroValue4
  t5 := Tryd.underlying5
  a5 := Tryd.isAgg5
  z5 := Tryd.sizeOf5
  v5 := Tryd.zeroValue5
  t9 := Tryd.underlying9
  a9 := Tryd.isAgg9
  z9 := Tryd.sizeOf9
  v9 := Tryd.zeroValue9
  t20 := Tryd.underlying20
  a20 := Tryd.isAgg20
  z20 := Tryd.sizeOf20
  v20 := Tryd.zeroValue20
  t37 := Tryd.underlying35
  a37 := Tryd.isAgg35
  z37 := Tryd.sizeOf35
  v37 := Tryd.zeroValue35
  t70 := Tryd.underlying76
  a70 := Tryd.isAgg76
  z70 := Tryd.sizeOf76
  v70 := Tryd.zeroValue76
  t72 := Tryd.underlying78
  a72 := Tryd.isAgg78
  z72 := Tryd.sizeOf78
  v72 := Tryd.zeroValue78
  t75 := Tryd.underlying80
  a75 := Tryd.isAgg80
  z75 := Tryd.sizeOf80
  v75 := Tryd.zeroValue80
  t164 := Tryd.underlying105
  a164 := Tryd.isAgg105
  z164 := Tryd.sizeOf105
  v164 := Tryd.zeroValue105

def Tryd.lays169_ren : Go.Shelf.Ren := ⟨fun | 169 => 41 | n => n, fun | 70 => 76 | 9 => 9 | 0 => 0 | 72 => 78 | 37 => 35 | 127 => 100 | 3 => 3 | 5 => 5 | n => n, fun | n => n⟩
theorem Tryd.lays169 : Go.Proofs.Lays.n169 Tryd.prog Tryd.lays169_ren where
  mixed := by kernel_rfl
  f169 := Tryd.func41.trans (congrArg some (by kernel_rfl))
  t0 := Tryd.underlying0
  a0 := Tryd.isAgg0
  z0 := Tryd.sizeOf0
  v0 := Tryd.zeroValue0
  t3 := Tryd.underlying3
  a3 := Tryd.isAgg3
  z3 := Tryd.sizeOf3
  v3 := Tryd.zeroValue3
  t9 := Tryd.underlying9
  a9 := Tryd.isAgg9
  z9 := Tryd.sizeOf9
  v9 := Tryd.zeroValue9
  t37 := Tryd.underlying35
  a37 := Tryd.isAgg35
  z37 := Tryd.sizeOf35
  v37 := Tryd.zeroValue35
  t70 := Tryd.underlying76
  a70 := Tryd.isAgg76
  z70 := Tryd.sizeOf76
  v70 := Tryd.zeroValue76
  t72 := Tryd.underlying78
  a72 := Tryd.isAgg78
  z72 := Tryd.sizeOf78
  v72 := Tryd.zeroValue78
  t127 := Tryd.underlying100
  a127 := Tryd.isAgg100
  z127 := Tryd.sizeOf100
  v127 := Tryd.zeroValue100

theorem Tryd.extra156 : Builder.Extra Tryd.prog Tryd.lays156_ren where
  sizeBuilder := by kernel_rfl
  liesBuilder := by kernel_rfl
  t5 := Tryd.underlying5
  a5 := Tryd.isAgg5
  z5 := Tryd.sizeOf5
  v5 := Tryd.zeroValue5
  infoByte := by kernel_rfl
  cellsByte := by kernel_rfl
  sizeByte := by kernel_rfl
  neB5 := by decide
theorem Tryd.extra166 : Builder.Extra Tryd.prog Tryd.lays166_ren where
  sizeBuilder := by kernel_rfl
  liesBuilder := by kernel_rfl
  t5 := Tryd.underlying5
  a5 := Tryd.isAgg5
  z5 := Tryd.sizeOf5
  v5 := Tryd.zeroValue5
  infoByte := by kernel_rfl
  cellsByte := by kernel_rfl
  sizeByte := by kernel_rfl
  neB5 := by decide
theorem Tryd.extra167 : Builder.Extra Tryd.prog Tryd.lays167_ren where
  sizeBuilder := by kernel_rfl
  liesBuilder := by kernel_rfl
  t5 := Tryd.underlying5
  a5 := Tryd.isAgg5
  z5 := Tryd.sizeOf5
  v5 := Tryd.zeroValue5
  infoByte := by kernel_rfl
  cellsByte := by kernel_rfl
  sizeByte := by kernel_rfl
  neB5 := by decide
theorem Tryd.extra169 : Builder.Extra Tryd.prog Tryd.lays169_ren where
  sizeBuilder := by kernel_rfl
  liesBuilder := by kernel_rfl
  t5 := Tryd.underlying5
  a5 := Tryd.isAgg5
  z5 := Tryd.sizeOf5
  v5 := Tryd.zeroValue5
  infoByte := by kernel_rfl
  cellsByte := by kernel_rfl
  sizeByte := by kernel_rfl
  neB5 := by decide

namespace YtjofegjiakjjhaaDoor
open Go.RowKit Go.Lib

/-- What the listed variables hold. -/
structure Env (w : World) : Prop where
  mx : ∃ m, w.cell? ⟨0, 0, none⟩ = some (.int .i64 m)
  syn : ∃ te pe, w.cell? ⟨1, 0, none⟩ = some (.iface te pe)
  rng : ∃ te pe, w.cell? ⟨2, 0, none⟩ = some (.iface te pe)
  p10 : Lib.TabIs Tryd.prog w "internal/strconv.uint64pow10" .u64 Lib.pow10Tab
  tz : w.cell? ⟨7, 15, none⟩ = some (.int .u8 4)
theorem Env.below {w w' : World} (h : Env w) (hb : Below w.heap.size w w') : Env w' := by
  obtain ⟨⟨m, h1⟩, ⟨te, pe, h2⟩, ⟨te', pe', h3⟩, h4, h5⟩ := h
  have key : ∀ p v, w.cell? p = some v → w'.cell? p = some v := fun p v hc => (hb.cell (World.block_lt_of_cell? _ _ hc)).trans hc
  exact ⟨⟨m, key _ _ h1⟩, ⟨te, pe, key _ _ h2⟩, ⟨te', pe', key _ _ h3⟩, Go.Joins.var_stays (g := 3) (by kernel_rfl) h4 hb (Nat.le_refl _), key _ _ h5⟩
theorem litoa (n : Int) (h : i64ok n) {w : World} (he : Env w) : Calls Tryd.prog 35 #[.int .i64 n] w (NumIs w (itoa n)) :=
  (Any.strconv_Itoa Tryd.lays171 n h.1 h.2 w he.p10).mono fun e w' hp => by
    obtain ⟨h1, k, os, rfl⟩ := hp
    exact ⟨h1, below_grow w.heap.size w (Nat.le_refl _) k os⟩
theorem own_cases {w : World} {base n : Nat} {e : TypeId} {v : Value} {xs : List Value} (h : w.ownsRow base e 1 v n xs) : (v = .slice none 0 0 ∧ n = 0) ∨ ∃ g cc, v = .slice (some ⟨g, 0, none⟩) n cc ∧ base ≤ g ∧ g < w.heap.size ∧ n ≤ cc ∧ cc ≤ maxLen ∧ ∀ k, k < n → w.cell? ⟨g, k, none⟩ = xs[k]? := by
  have hh := h
  rcases h.2 with ⟨h1, h0⟩ | ⟨g, cap, cur, rfl, hb, hg, hn, hc, _⟩
  · exact .inl ⟨h1, h0⟩
  · exact .inr ⟨g, cap, rfl, hb, (hh.lt g rfl).2, hn, hc, fun k hk => hh.cellAt k (by omega)⟩
theorem ljoin {w : World} {v : Value} {ws : List Bs} (ho : w.ownsRow 0 9 1 v ws.length (ws.map bv)) (hn : ws.length ≤ 100000) (hlen : (join ws [32]).length ≤ 140737488355328) :
    Calls Tryd.prog 27 #[v, bv [32]] w (NumIs w (join ws [32])) := by
  rcases own_cases ho with ⟨rfl, h0⟩ | ⟨g, cc, rfl, _, hg, hn1, _, hc⟩
  · obtain rfl : ws = [] := List.eq_nil_of_length_eq_zero h0
    refine (Any.strings_Join_none Tryd.lays156 Tryd.extra156 none 0 ⟨[32].toArray⟩ w).mono fun e w' hp => ?_
    obtain ⟨h1, h2⟩ := hp
    exact ⟨by rw [h1]; rfl, by rw [h2]; exact Below.refl _ _⟩
  · have e1 : (ws.map fun l => (⟨l.toArray⟩ : ByteArray)).map (·.data.toList) = ws := by
      rw [List.map_map]
      conv => rhs; rw [← List.map_id ws]
      rfl
    have := Any.strings_Join Tryd.lays156 Tryd.extra156 g 0 cc (ws.map fun l => (⟨l.toArray⟩ : ByteArray)) ⟨[32].toArray⟩ w (fun j x hj => by
        rw [List.getElem?_map, Option.map_eq_some_iff] at hj
        obtain ⟨l, hl, rfl⟩ := hj
        have hjl := (List.getElem?_eq_some_iff.1 hl).1
        rw [Nat.zero_add, hc j hjl, List.getElem?_map, hl]; rfl) hg (by rw [List.length_map]; omega) (by rw [List.length_map]; exact hn1) (by rw [e1]; exact hlen)
    rw [e1, List.length_map] at this
    exact this
theorem lsplit (c : UInt8) (l : Bs) (hl : l.length < 4294967281) {w : World} (he : Env w) : Calls Tryd.prog 31 #[bv l, bv [c]] w fun e w' => ∃ v, e = .returned v ∧ w'.ownsRow w.heap.size 9 1 v (cutL c l).length ((cutL c l).map bv) ∧ Below w.heap.size w w' := by
  obtain ⟨m, hm⟩ := he.mx
  refine (Any.strings_Split Tryd.lays146 (by kernel_rfl) ⟨l.toArray⟩ ⟨[c].toArray⟩ m w hl hm (Nat.le_refl _)).mono fun e w' hp => ?_
  obtain ⟨h1, rfl⟩ := hp
  have e1 := split_vals c l
  have e2 : countB ⟨l.toArray⟩ ⟨[c].toArray⟩ + 1 = (cutL c l).length := by
    have h2 := congrArg List.length e1
    rw [List.length_map, List.length_map] at h2
    rw [← h2]
    exact (splitB_all ⟨[c].toArray⟩ (Nat.le_refl _) 0 _ ⟨l.toArray⟩ rfl).symm
  have e3 : (cutL c l).length ≤ l.length + 1 := by
    rw [← e2]
    have := countB_le ⟨[c].toArray⟩ (Nat.le_refl _) _ ⟨l.toArray⟩ (Nat.le_refl _)
    have h9 : (⟨l.toArray⟩ : ByteArray).size = l.length := by simp [ByteArray.size]
    omega
  rw [e2] at h1
  refine ⟨_, h1, ⟨by rw [List.length_map]; omega, .inr ⟨w.heap.size, (cutL c l).length, ((cutL c l).map bv).toArray, rfl, Nat.le_refl _, ?_, Nat.le_refl _, by unfold maxLen; omega, by simp, by simp [List.take_of_length_le]⟩⟩, (Below.refl _ _).alloc (Nat.le_refl _) _⟩
  rw [show ((splitB ⟨[c].toArray⟩ 0 (countB ⟨l.toArray⟩ ⟨[c].toArray⟩) ⟨l.toArray⟩).map Value.string) = (cutL c l).map bv from e1]
  exact heap_alloc_new w _
theorem ltrim (l : Bs) (w : World) : Calls Tryd.prog 51 #[bv l, bv [48, 120]] w fun e w' => e = .returned (bv (trim l)) ∧ w = w' :=
  (Any.strings_TrimPrefix Tryd.lays101 ⟨l.toArray⟩ ⟨[48, 120].toArray⟩ w).mono fun e w' hp => by
    obtain ⟨h1, h2⟩ := hp
    exact ⟨by rw [h1]; rfl, h2.symm⟩
/-- strconv.Atoi: some number, or an error. -/
theorem latoi (l : Bs) (hl : l.length ≤ 281474976710656) {w : World} (he : Env w) : Calls Tryd.prog 49 #[bv l] w fun e w' => (∃ v, atoiO l = some v ∧ e = .returned (.tuple #[.int .i64 v, .nilIface]) ∧ Below w.heap.size w w') ∨ (∃ v te pe, atoiO l = none ∧ e = .returned (.tuple #[.int .i64 v, .iface te pe]) ∧ Below w.heap.size w w') := by
  have h9 : (⟨l.toArray⟩ : ByteArray).size = l.length := by simp [ByteArray.size]
  obtain ⟨te, pe, hsy⟩ := he.syn
  obtain ⟨te', pe', hrg⟩ := he.rng
  cases h : atoiAll l with
  | ok v =>
    refine (Any.strconv_Atoi_ok Tryd.lays172 ⟨l.toArray⟩ (by omega) v h w).mono fun e w' hp => ?_
    refine .inl ⟨v, by unfold atoiO; rw [h], hp.1, ?_⟩
    rcases hp.2 with rfl | ⟨t, rfl⟩
    · exact Below.refl _ _
    · exact Go.Joins.below_bytesWorld _ w _ t (Nat.le_refl _)
  | range =>
    refine (Any.strconv_Atoi_range Tryd.lays172 ⟨l.toArray⟩ (by omega) h _ w hrg (.inr ⟨_, _, rfl⟩)).mono fun e w' hp => ?_
    obtain ⟨N, h1, _, _, h2⟩ := hp
    exact .inr ⟨_, _, _, by unfold atoiO; rw [h], h1, h2⟩
  | _ =>
    refine (Any.strconv_Atoi_syntax Tryd.lays172 ⟨l.toArray⟩ (by omega) h _ w hsy (.inr ⟨_, _, rfl⟩)).mono fun e w' hp => ?_
    obtain ⟨N, h1, _, _, h2⟩ := hp
    exact .inr ⟨_, _, _, by unfold atoiO; rw [h], h1, h2⟩
/-- A builder of the call's own that holds the bytes l. -/
def Bld (B b : Nat) (l : Bs) (w : World) : Prop := IsBuilder 78 5 B b (byteCells l) w
theorem Bld.fresh (w : World) : Bld w.heap.size w.heap.size [] (w.alloc (.cells #[.pointer none, .slice none 0 0] 78)) := fresh_isBuilder _ _ w
theorem lbws {B b : Nat} {l : Bs} {w : World} (h : Bld B b l w) (m : Bs) (hn : l.length + m.length ≤ 140737488355328) (hB : B ≤ w.heap.size) :
    Calls Tryd.prog 39 #[.pointer (some ⟨b, 0, none⟩), bv m] w fun e w' => e = .returned (.tuple #[.int .i64 m.length, .nilIface]) ∧ Bld B b (l ++ m) w' ∧ Below B w w' := by
  have h9 : (⟨m.toArray⟩ : ByteArray).size = m.length := by simp [ByteArray.size]
  refine (Any.Builder_WriteString Tryd.lays166 Tryd.extra166 B b (byteCells l) ⟨m.toArray⟩ w h (by rw [h9]; simpa [byteCells] using hn) hB).mono fun e w' hp => ?_
  obtain ⟨h1, h2, h3⟩ := hp
  refine ⟨by rw [h1, h9], .inr ?_, h3⟩
  have e : byteCells (l ++ m) = byteCells l ++ strCells ⟨m.toArray⟩ := by simp [byteCells, strCells]
  rw [e]
  exact h2
theorem lbwb {B b : Nat} {l : Bs} {w : World} (h : Bld B b l w) (c : UInt8) (hn : l.length + 1 ≤ 140737488355328) (hB : B ≤ w.heap.size) :
    Calls Tryd.prog 40 #[.pointer (some ⟨b, 0, none⟩), .int .u8 (c.toNat : Int)] w fun e w' => e = .returned .nilIface ∧ Bld B b (l ++ [c]) w' ∧ Below B w w' := by
  refine (Any.Builder_WriteByte Tryd.lays167 Tryd.extra167 B b (byteCells l) c.toNat w h (by simpa [byteCells] using hn) hB).mono fun e w' hp => ?_
  obtain ⟨h1, h2, h3⟩ := hp
  refine ⟨h1, .inr ?_, h3⟩
  have e : byteCells (l ++ [c]) = byteCells l ++ [.int .u8 (c.toNat : Int)] := by simp [byteCells]
  rw [e]
  exact h2
theorem lbs {B b : Nat} {l : Bs} {w : World} (h : Bld B b l w) (hB : B ≤ w.heap.size) :
    Calls Tryd.prog 41 #[.pointer (some ⟨b, 0, none⟩)] w fun e w' => e = .returned (bv l) ∧ Below B w w' :=
  Any.Builder_String_any Tryd.lays169 Tryd.extra169 B b l w h hB
end YtjofegjiakjjhaaDoor
end Go.Proofs
/- Script: strconv.FormatUint at base 16. -/
namespace Go.Proofs.YtjofegjiakjjhaaDoor
open Go.RowKit Go.Lib

set_option maxRecDepth 20000 in
theorem ltz {w : World} (htz : w.cell? ⟨7, 15, none⟩ = some (.int .u8 4)) : Calls Tryd.prog 96 #[.int .u64 16] w fun e w' => e = .returned (.int .i64 4) ∧ w = w' := by
  have e1 : IntKind.u64.wrap (-16) = 18446744073709551600 := by decide
  have e2 : bits .and .u64 16 18446744073709551600 = 16 := by decide
  have e3 : IntKind.u64.wrap (16 * 285870213051353865) = 4573923408821661840 := by decide
  go_enter Tryd.func96, Tryd.ntmps96
  go_wp2
  go_ret
  exact ⟨rfl, rfl⟩
theorem mask15 (u : Nat) (hu : u < 18446744073709551616) : bits .and .u64 (u : Int) 15 = ((u % 16 : Nat) : Int) := by
  show IntKind.u64.wrap ((BitVec.ofInt 64 (u : Int) &&& BitVec.ofInt 64 15).toNat : Int) = _
  have e1 : (BitVec.ofInt 64 (15 : Int)).toNat = 2 ^ 4 - 1 := by decide
  have e2 : (BitVec.ofInt 64 (u : Int)).toNat = u := by
    rw [BitVec.toNat_ofInt]; omega
  rw [BitVec.toNat_and, e1, Nat.and_two_pow_sub_one_eq_mod, e2]
  unfold IntKind.wrap
  simp [IntKind.bits, IntKind.signed]
  omega
theorem addr_add (b k j : Nat) : (⟨b, k, none⟩ : Addr).add j = ⟨b, k + j, none⟩ := by
  simp [Addr.add]
  try omega
/-- 'a[k:]' of the sixty-five bytes. -/
theorem slice65 (W : World) (b k : Nat) (hk : k < 65) : (Instr.sliceAt 134 (.pointer (some ⟨b, 0, none⟩)) (some (.int .i64 (k : Int))) none none).run Tryd.prog W = .ok (.slice (some ⟨b, k, none⟩) (65 - k) (65 - k)) W := by
  have hl : Tryd.prog.arrayLen 134 = 65 := by kernel_rfl
  have he : Tryd.prog.elem 134 = 5 := by kernel_rfl
  rw [run_sliceAt_array_l W 134 ⟨b, 0, none⟩ (by rw [hl, he]; exact Tryd.underlying134) .i64 (k : Int) (by omega) (by rw [hl]; omega), hl, he, Tryd.sizeOf5]
  show Result.ok (slicedAt ⟨b, 0, none⟩ (k : Int).toNat 65 65 1) W = _
  unfold slicedAt
  rw [Int.toNat_natCast, if_neg (by omega), Nat.mul_one, addr_add, Nat.zero_add]
def FbR (v : Nat) (w0 : World) (b : Nat) (vu vi : Value) (wr : World) : Prop := ∃ (u : Nat) (acc : Bs) (cur : Array Value), vu = .int .u64 u ∧ vi = .int .i64 ((65 : Int) - (acc.length : Nat)) ∧ u ≤ v ∧ acc.length + (hexD u).length ≤ 16 ∧ Blk wr b 134 cur ∧ cur.size = 65 ∧ (∀ j (h : j < acc.length), cur[65 - acc.length + j]? = some (.int .u8 ((acc[j]).toNat : Int))) ∧ hexD u ++ acc = hexD v ∧ Below w0.heap.size w0 wr
set_option maxRecDepth 20000 in
set_option maxHeartbeats 4000000 in
theorem lfb (v : Nat) (hv : v < 18446744073709551616) {w : World} (he : Env w) :
    Calls Tryd.prog 84 #[.slice none 0 0, .int .u64 v, .int .i64 16, .bool false, .bool false] w fun e w' => e = .returned (.tuple #[.slice none 0 0, bv (hexD v)]) ∧ Below w.heap.size w w' := by
  have htz := fun o => (he.below ((Below.refl _ _).alloc (Nat.le_refl _) o)).tz
  have HTZ := Lib.hid htz
  have HB := Lib.hid (fun o => (Below.refl w.heap.size w).alloc (Nat.le_refl _) o)
  clear htz
  go_enter Tryd.func84, Tryd.ntmps84
  go_wp2_with (first | (go_at_call 96; refine (ltz (HTZ.out _)).mono ?_; rintro e _ ⟨rfl, rfl⟩) | go_in)
  clear HTZ
  have hb0 := hexD_len 16 v (by omega) (by omega)
  have hS : ∀ k, k < 16 → ∀ h : k < (⟨#[48, 49, 50, 51, 52, 53, 54, 55, 56, 57, 97, 98, 99, 100, 101, 102, 103, 104, 105, 106, 107, 108, 109, 110, 111, 112, 113, 114, 115, 116, 117, 118, 119, 120, 121, 122]⟩ : ByteArray).size, (⟨#[48, 49, 50, 51, 52, 53, 54, 55, 56, 57, 97, 98, 99, 100, 101, 102, 103, 104, 105, 106, 107, 108, 109, 110, 111, 112, 113, 114, 115, 116, 117, 118, 119, 120, 121, 122]⟩ : ByteArray)[k]'h = hdg k := by
    intro k hk
    have : ∀ k : Fin 16, ∀ h : k.1 < (⟨#[48, 49, 50, 51, 52, 53, 54, 55, 56, 57, 97, 98, 99, 100, 101, 102, 103, 104, 105, 106, 107, 108, 109, 110, 111, 112, 113, 114, 115, 116, 117, 118, 119, 120, 121, 122]⟩ : ByteArray).size, (⟨#[48, 49, 50, 51, 52, 53, 54, 55, 56, 57, 97, 98, 99, 100, 101, 102, 103, 104, 105, 106, 107, 108, 109, 110, 111, 112, 113, 114, 115, 116, 117, 118, 119, 120, 121, 122]⟩ : ByteArray)[k.1]'h = hdg k.1 := by decide
    exact this ⟨k, hk⟩
  have HS := Lib.hid hS
  clear hS
  go_loopw [1, 13] (FbR v w w.heap.size) (fun vu _ _ => cntZ vu)
  case atStart => exact ⟨v, [], Tryd.zeroCells134, rfl, rfl, Nat.le_refl _, by simp; omega, Blk.new _ _ _, by kernel_rfl, fun j h => absurd h (Nat.not_lt_zero _), by rw [List.append_nil], HB.out _⟩
  case round =>
    clear HB
    obtain ⟨u, acc, cur, rfl, rfl, hu, hl, hblk, hsz, hcs, happ, hbe⟩ := hrel
    obtain ⟨i, hi⟩ : ∃ i : Nat, (65 : Int) - (acc.length : Nat) = (i : Int) := ⟨65 - acc.length, by omega⟩
    have hi2 : i + acc.length = 65 ∧ 49 ≤ i ∧ i ≤ 65 := by omega
    rw [hi]
    have HC := Lib.hid hcs
    have HA := Lib.hid happ
    have HBE := Lib.hid hbe
    have HBL := Lib.hid hblk
    obtain ⟨x, hx⟩ : ∃ x, cur[i - 1]? = some x := ⟨_, Array.getElem?_eq_getElem (by omega)⟩
    have hcell : wr.cell? ⟨w.heap.size, i - 1, none⟩ = some x := (hblk.cell (i - 1)).trans hx
    have hfz := hblk.frozen (i - 1)
    have HSZ := Lib.hid hsz
    clear hx hsz
    clear hcs happ hbe hblk hi
    by_cases h16 : 16 ≤ u
    · have g1 : decide ((u : Int) ≥ 16) = true := by simp; omega
      have g2 : (16 : Int) ≤ (u : Int) := by omega
      have hm : u % 16 < 16 := by omega
      have hmk := mask15 u (by omega)
      go_wp2
      rw [HS.out _ hm]
      refine ⟨⟨u / 16, hdg (u % 16) :: acc, cur.setIfInBounds (i - 1) (.int .u8 ((hdg (u % 16)).toNat : Int)), by go_num, by rw [List.length_cons]; congr 1; omega, by omega, ?_, HBL.out.set_ _ _, by rw [Array.size_setIfInBounds]; exact HSZ.out, fun j hj => ?_, ?_, ?_⟩, ?_⟩
      · rw [List.length_cons]
        have := congrArg List.length HA.out
        rw [hexD_big (by omega : ¬ u < 16)] at hl
        simp only [List.length_append, List.length_cons, List.length_nil] at hl
        omega
      · have e1 : 65 - (hdg (u % 16) :: acc).length = i - 1 := by rw [List.length_cons]; omega
        rw [e1]
        cases j with
        | zero =>
          rw [Nat.add_zero, Array.getElem?_setIfInBounds_self_of_lt (by have := HSZ.out; omega)]
          rfl
        | succ j =>
          have hj' : j < acc.length := by simpa using hj
          have := HC.out j hj'
          rw [Array.getElem?_setIfInBounds_ne (by omega), show i - 1 + (j + 1) = 65 - acc.length + j by omega, this]
          rfl
      · rw [← HA.out, hexD_big (by omega : ¬ u < 16), List.append_assoc]; rfl
      · exact HBE.out.trans ((Below.refl w.heap.size wr).setCell (p := ⟨w.heap.size, i - 1, none⟩) (Nat.le_refl _) _)
      · show ((u : Int) / 16).toNat < (u : Int).toNat
        omega
    · have g1 : decide ((u : Int) ≥ 16) = false := by simp; omega
      have g2 : (u : Int) < 16 := by omega
      have hi1 : ((i : Int) - 1) = ((i - 1 : Nat) : Int) := by omega
      have hsl := fun W => slice65 W w.heap.size (i - 1) (by omega)
      rw [← hi1] at hsl
      have hval := HS.out u (by omega) (by show u < 36; omega)
      have e7 : 65 - (i - 1) = (hdg u :: acc).length := by rw [List.length_cons]; omega
      rw [e7] at hsl
      have hB9 := HBL.out.set_ (i - 1) (.int .u8 ((hdg u).toNat : Int))
      have hcv := run_convert_bytes_back (P := Tryd.prog) (wr.setCell ⟨w.heap.size, i - 1, none⟩ (.int .u8 ((hdg u).toNat : Int))) 35 9 5 ⟨w.heap.size, i - 1, none⟩ (hdg u :: acc).length (hdg u :: acc) Tryd.underlying35 Tryd.underlying5 Tryd.underlying9 (fun j hj => by
        rw [addr_add]
        refine (hB9.cell (i - 1 + j)).trans ?_
        cases j with
        | zero =>
          rw [Nat.add_zero, Array.getElem?_setIfInBounds_self_of_lt (by have := HSZ.out; omega)]
          rfl
        | succ j =>
          have hj' : j < acc.length := by simpa using hj
          have := HC.out j hj'
          rw [Array.getElem?_setIfInBounds_ne (by omega), show i - 1 + (j + 1) = 65 - acc.length + j by omega, this]
          rfl)
      have HE := Lib.hid (show hdg u :: acc = hexD v from by rw [← HA.out, hexD_small (by omega : u < 16)]; rfl)
      have HBF := Lib.hid (HBE.out.trans ((Below.refl w.heap.size wr).setCell (p := ⟨w.heap.size, i - 1, none⟩) (Nat.le_refl _) (.int .u8 ((hdg u).toNat : Int))))
      clear e7 hB9 hi1
      rw [HE.out] at hsl hcv
      go_wp2
      go_ret2
      exact ⟨rfl, HBF.out⟩
set_option maxRecDepth 20000 in
theorem lhexa (v : Nat) (hv : v < 18446744073709551616) {w : World} (he : Env w) : Calls Tryd.prog 36 #[.int .u64 v] w (NumIs w (hexW v)) := by
  have hl := hexD_len 16 v (by omega) (by omega)
  have l3 : ¬ 9223372036854775807 < 2 + (hexD v).length := by omega
  go_enter Tryd.func36, Tryd.ntmps36
  go_wp2_with (first | (go_at_call 84; refine (lfb v hv he).mono ?_; rintro e w1 ⟨rfl, hb⟩) | go_in)
  go_ret
  exact ⟨rfl, hb⟩
end Go.Proofs.YtjofegjiakjjhaaDoor
/- Script, the program: its table of kinds. -/
namespace Go.Proofs.YtjofegjiakjjhaaDoor
open Go.RowKit Go.Lib

/-- The table's cells. -/
def kindC : Array Value := #[.string ⟨#[]⟩, .string ⟨#[]⟩, .string ⟨#[108, 111, 97, 100]⟩, .string ⟨#[103, 120, 115, 119]⟩, .string ⟨#[115, 116, 111, 114, 101]⟩, .string ⟨#[103, 120, 115, 118, 119]⟩, .string ⟨#[102, 101, 116, 99, 104]⟩, .string ⟨#[103, 120, 115, 119]⟩, .string ⟨#[114, 111, 111, 116]⟩, .string ⟨#[103, 111, 120, 97]⟩, .string ⟨#[102, 108, 117, 115, 104]⟩, .string ⟨#[103, 108, 97, 120]⟩, .string ⟨#[111, 102, 102, 101, 114]⟩, .string ⟨#[103, 120]⟩, .string ⟨#[114, 101, 118, 111, 107, 101]⟩, .string ⟨#[103, 120]⟩, .string ⟨#[103, 105, 118, 101]⟩, .string ⟨#[103, 120]⟩, .string ⟨#[99, 114, 101, 97, 116, 101]⟩, .string ⟨#[]⟩, .string ⟨#[100, 101, 115, 116, 114, 111, 121]⟩, .string ⟨#[103]⟩, .string ⟨#[100, 111, 110, 97, 116, 101]⟩, .string ⟨#[103, 120]⟩, .string ⟨#[98, 108, 111, 99, 107]⟩, .string ⟨#[103, 120]⟩, .string ⟨#[110, 101, 119]⟩, .string ⟨#[]⟩, .string ⟨#[100, 114, 111, 112]⟩, .string ⟨#[112]⟩, .string ⟨#[108, 101, 110, 100]⟩, .string ⟨#[112, 103, 120, 114]⟩, .string ⟨#[114, 101, 116, 117, 114, 110]⟩, .string ⟨#[103, 120]⟩, .string ⟨#[103, 101, 116]⟩, .string ⟨#[112, 120, 115]⟩, .string ⟨#[112, 117, 116]⟩, .string ⟨#[112, 120, 115, 118]⟩, .string ⟨#[112, 101, 101, 107]⟩, .string ⟨#[103, 120, 115]⟩, .string ⟨#[112, 111, 107, 101]⟩, .string ⟨#[103, 120, 115, 118]⟩, .string ⟨#[109, 101, 114, 103, 101]⟩, .string ⟨#[103, 120]⟩, .string ⟨#[111, 117, 116]⟩, .string ⟨#[103, 120]⟩, .string ⟨#[105, 110]⟩, .string ⟨#[103, 120]⟩, .string ⟨#[99, 111, 108, 100]⟩, .string ⟨#[]⟩, .string ⟨#[108, 111, 103]⟩, .string ⟨#[103]⟩, .string ⟨#[117, 110, 108, 111, 103]⟩, .string ⟨#[103]⟩, .string ⟨#[99, 111, 108, 108, 101, 99, 116]⟩, .string ⟨#[103]⟩, .string ⟨#[115, 112, 108, 105, 116]⟩, .string ⟨#[103, 120]⟩, .string ⟨#[106, 111, 105, 110]⟩, .string ⟨#[103, 120]⟩, .string ⟨#[101, 118, 105, 99, 116]⟩, .string ⟨#[116, 119]⟩, .string ⟨#[102, 97, 105, 108]⟩, .string ⟨#[102]⟩, .string ⟨#[102, 97, 100, 101]⟩, .string ⟨#[]⟩]
def kindsV : Value := .agg kindC
set_option maxRecDepth 20000 in
set_option maxHeartbeats 4000000 in
theorem lkinds (w : World) : Calls Tryd.prog 24 #[] w fun e w' => e = .returned kindsV ∧ Below w.heap.size w w' := by
  go_enter Tryd.func24, Tryd.ntmps24
  go_upto_region 1 with fail
  rename_i hK
  apply wp_region_lit
  refine wlV1 (v := .agg #[.string ⟨#[108, 111, 97, 100]⟩, .string ⟨#[103, 120, 115, 119]⟩]) (by kernel_rfl) (by kernel_rfl) ?_
  (try simp only [Act.put, List.setIfInBounds_toArray, List.set_cons_zero, List.set_cons_succ])
  refine wlV1 (v := .agg #[.string ⟨#[115, 116, 111, 114, 101]⟩, .string ⟨#[103, 120, 115, 118, 119]⟩]) (by kernel_rfl) (by kernel_rfl) ?_
  (try simp only [Act.put, List.setIfInBounds_toArray, List.set_cons_zero, List.set_cons_succ])
  refine wlV1 (v := .agg #[.string ⟨#[102, 101, 116, 99, 104]⟩, .string ⟨#[103, 120, 115, 119]⟩]) (by kernel_rfl) (by kernel_rfl) ?_
  (try simp only [Act.put, List.setIfInBounds_toArray, List.set_cons_zero, List.set_cons_succ])
  refine wlV1 (v := .agg #[.string ⟨#[114, 111, 111, 116]⟩, .string ⟨#[103, 111, 120, 97]⟩]) (by kernel_rfl) (by kernel_rfl) ?_
  (try simp only [Act.put, List.setIfInBounds_toArray, List.set_cons_zero, List.set_cons_succ])
  refine wlV1 (v := .agg #[.string ⟨#[102, 108, 117, 115, 104]⟩, .string ⟨#[103, 108, 97, 120]⟩]) (by kernel_rfl) (by kernel_rfl) ?_
  (try simp only [Act.put, List.setIfInBounds_toArray, List.set_cons_zero, List.set_cons_succ])
  refine wlV1 (v := .agg #[.string ⟨#[111, 102, 102, 101, 114]⟩, .string ⟨#[103, 120]⟩]) (by kernel_rfl) (by kernel_rfl) ?_
  (try simp only [Act.put, List.setIfInBounds_toArray, List.set_cons_zero, List.set_cons_succ])
  refine wlV1 (v := .agg #[.string ⟨#[114, 101, 118, 111, 107, 101]⟩, .string ⟨#[103, 120]⟩]) (by kernel_rfl) (by kernel_rfl) ?_
  (try simp only [Act.put, List.setIfInBounds_toArray, List.set_cons_zero, List.set_cons_succ])
  refine wlV1 (v := .agg #[.string ⟨#[103, 105, 118, 101]⟩, .string ⟨#[103, 120]⟩]) (by kernel_rfl) (by kernel_rfl) ?_
  (try simp only [Act.put, List.setIfInBounds_toArray, List.set_cons_zero, List.set_cons_succ])
  refine wlV1 (v := .agg #[.string ⟨#[99, 114, 101, 97, 116, 101]⟩, .string ⟨#[]⟩]) (by kernel_rfl) (by kernel_rfl) ?_
  (try simp only [Act.put, List.setIfInBounds_toArray, List.set_cons_zero, List.set_cons_succ])
  refine wlV1 (v := .agg #[.string ⟨#[100, 101, 115, 116, 114, 111, 121]⟩, .string ⟨#[103]⟩]) (by kernel_rfl) (by kernel_rfl) ?_
  (try simp only [Act.put, List.setIfInBounds_toArray, List.set_cons_zero, List.set_cons_succ])
  refine wlV1 (v := .agg #[.string ⟨#[100, 111, 110, 97, 116, 101]⟩, .string ⟨#[103, 120]⟩]) (by kernel_rfl) (by kernel_rfl) ?_
  (try simp only [Act.put, List.setIfInBounds_toArray, List.set_cons_zero, List.set_cons_succ])
  refine wlV1 (v := .agg #[.string ⟨#[98, 108, 111, 99, 107]⟩, .string ⟨#[103, 120]⟩]) (by kernel_rfl) (by kernel_rfl) ?_
  (try simp only [Act.put, List.setIfInBounds_toArray, List.set_cons_zero, List.set_cons_succ])
  refine wlV1 (v := .agg #[.string ⟨#[110, 101, 119]⟩, .string ⟨#[]⟩]) (by kernel_rfl) (by kernel_rfl) ?_
  (try simp only [Act.put, List.setIfInBounds_toArray, List.set_cons_zero, List.set_cons_succ])
  refine wlV1 (v := .agg #[.string ⟨#[100, 114, 111, 112]⟩, .string ⟨#[112]⟩]) (by kernel_rfl) (by kernel_rfl) ?_
  (try simp only [Act.put, List.setIfInBounds_toArray, List.set_cons_zero, List.set_cons_succ])
  refine wlV1 (v := .agg #[.string ⟨#[108, 101, 110, 100]⟩, .string ⟨#[112, 103, 120, 114]⟩]) (by kernel_rfl) (by kernel_rfl) ?_
  (try simp only [Act.put, List.setIfInBounds_toArray, List.set_cons_zero, List.set_cons_succ])
  refine wlV1 (v := .agg #[.string ⟨#[114, 101, 116, 117, 114, 110]⟩, .string ⟨#[103, 120]⟩]) (by kernel_rfl) (by kernel_rfl) ?_
  (try simp only [Act.put, List.setIfInBounds_toArray, List.set_cons_zero, List.set_cons_succ])
  refine wlV1 (v := .agg #[.string ⟨#[103, 101, 116]⟩, .string ⟨#[112, 120, 115]⟩]) (by kernel_rfl) (by kernel_rfl) ?_
  (try simp only [Act.put, List.setIfInBounds_toArray, List.set_cons_zero, List.set_cons_succ])
  refine wlV1 (v := .agg #[.string ⟨#[112, 117, 116]⟩, .string ⟨#[112, 120, 115, 118]⟩]) (by kernel_rfl) (by kernel_rfl) ?_
  (try simp only [Act.put, List.setIfInBounds_toArray, List.set_cons_zero, List.set_cons_succ])
  refine wlV1 (v := .agg #[.string ⟨#[112, 101, 101, 107]⟩, .string ⟨#[103, 120, 115]⟩]) (by kernel_rfl) (by kernel_rfl) ?_
  (try simp only [Act.put, List.setIfInBounds_toArray, List.set_cons_zero, List.set_cons_succ])
  refine wlV1 (v := .agg #[.string ⟨#[112, 111, 107, 101]⟩, .string ⟨#[103, 120, 115, 118]⟩]) (by kernel_rfl) (by kernel_rfl) ?_
  (try simp only [Act.put, List.setIfInBounds_toArray, List.set_cons_zero, List.set_cons_succ])
  refine wlV1 (v := .agg #[.string ⟨#[109, 101, 114, 103, 101]⟩, .string ⟨#[103, 120]⟩]) (by kernel_rfl) (by kernel_rfl) ?_
  (try simp only [Act.put, List.setIfInBounds_toArray, List.set_cons_zero, List.set_cons_succ])
  refine wlV1 (v := .agg #[.string ⟨#[111, 117, 116]⟩, .string ⟨#[103, 120]⟩]) (by kernel_rfl) (by kernel_rfl) ?_
  (try simp only [Act.put, List.setIfInBounds_toArray, List.set_cons_zero, List.set_cons_succ])
  refine wlV1 (v := .agg #[.string ⟨#[105, 110]⟩, .string ⟨#[103, 120]⟩]) (by kernel_rfl) (by kernel_rfl) ?_
  (try simp only [Act.put, List.setIfInBounds_toArray, List.set_cons_zero, List.set_cons_succ])
  refine wlV1 (v := .agg #[.string ⟨#[99, 111, 108, 100]⟩, .string ⟨#[]⟩]) (by kernel_rfl) (by kernel_rfl) ?_
  (try simp only [Act.put, List.setIfInBounds_toArray, List.set_cons_zero, List.set_cons_succ])
  refine wlV1 (v := .agg #[.string ⟨#[108, 111, 103]⟩, .string ⟨#[103]⟩]) (by kernel_rfl) (by kernel_rfl) ?_
  (try simp only [Act.put, List.setIfInBounds_toArray, List.set_cons_zero, List.set_cons_succ])
  refine wlV1 (v := .agg #[.string ⟨#[117, 110, 108, 111, 103]⟩, .string ⟨#[103]⟩]) (by kernel_rfl) (by kernel_rfl) ?_
  (try simp only [Act.put, List.setIfInBounds_toArray, List.set_cons_zero, List.set_cons_succ])
  refine wlV1 (v := .agg #[.string ⟨#[99, 111, 108, 108, 101, 99, 116]⟩, .string ⟨#[103]⟩]) (by kernel_rfl) (by kernel_rfl) ?_
  (try simp only [Act.put, List.setIfInBounds_toArray, List.set_cons_zero, List.set_cons_succ])
  refine wlV1 (v := .agg #[.string ⟨#[115, 112, 108, 105, 116]⟩, .string ⟨#[103, 120]⟩]) (by kernel_rfl) (by kernel_rfl) ?_
  (try simp only [Act.put, List.setIfInBounds_toArray, List.set_cons_zero, List.set_cons_succ])
  refine wlV1 (v := .agg #[.string ⟨#[106, 111, 105, 110]⟩, .string ⟨#[103, 120]⟩]) (by kernel_rfl) (by kernel_rfl) ?_
  (try simp only [Act.put, List.setIfInBounds_toArray, List.set_cons_zero, List.set_cons_succ])
  refine wlV1 (v := .agg #[.string ⟨#[101, 118, 105, 99, 116]⟩, .string ⟨#[116, 119]⟩]) (by kernel_rfl) (by kernel_rfl) ?_
  (try simp only [Act.put, List.setIfInBounds_toArray, List.set_cons_zero, List.set_cons_succ])
  refine wlV1 (v := .agg #[.string ⟨#[102, 97, 105, 108]⟩, .string ⟨#[102]⟩]) (by kernel_rfl) (by kernel_rfl) ?_
  (try simp only [Act.put, List.setIfInBounds_toArray, List.set_cons_zero, List.set_cons_succ])
  refine wlV1 (v := .agg #[.string ⟨#[102, 97, 100, 101]⟩, .string ⟨#[]⟩]) (by kernel_rfl) (by kernel_rfl) ?_
  (try simp only [Act.put, List.setIfInBounds_toArray, List.set_cons_zero, List.set_cons_succ])
  refine wlV1 (v := .agg kindC) (by kernel_rfl) (by kernel_rfl) ?_
  (try simp only [Act.put, List.setIfInBounds_toArray, List.set_cons_zero, List.set_cons_succ])
  refine wpList_store_rowTo rfl 63 _ _ rfl rfl w.heap.size kindC rfl rfl 63 _ (heap_alloc_new w _) (by kernel_rfl) (by kernel_rfl) (by kernel_rfl) ?_
  refine wpList_nil ?_
  refine hK _ _ ?_
  apply wp_ret
  have hg := setRow_heap (w.alloc (.cells Tryd.zeroCells63 63)) w.heap.size Tryd.zeroCells63 kindC 63 (0, 0) (heap_alloc_new w _)
  refine bodyPost_ret (results_cell_row rfl _ _ w.heap.size 63 kindC (0, 0) _ rfl hg Tryd.underlying63 rfl (by kernel_rfl)) rfl ?_
  exact ⟨rfl, below_setRow ((Below.refl _ _).alloc (Nat.le_refl _) _) (Nat.le_refl _) _⟩
set_option maxRecDepth 20000 in
theorem lwhats (w : World) : Calls Tryd.prog 44 #[] w fun e w' => e = .returned (.agg #[bv [], bv [97, 108, 108], bv [97, 115, 105, 100], bv [118, 97]]) ∧ Below w.heap.size w w' := by
  go_enter Tryd.func44, Tryd.ntmps44
  go_wp2
  have hg := heap_alloc_new w (.cells #[.string ⟨#[]⟩, .string ⟨#[97, 108, 108]⟩, .string ⟨#[97, 115, 105, 100]⟩, .string ⟨#[118, 97]⟩] 88)
  refine bodyPost_ret (results_cell_row rfl _ _ w.heap.size 88 _ (0, 0) _ rfl hg Tryd.underlying88 rfl (by kernel_rfl)) rfl ?_
  exact ⟨rfl, (Below.refl _ _).alloc (Nat.le_refl _) _⟩
/-- The table's row n. -/
theorem kind_at {n : Nat} {w0 : Bs} {fs : List Fd} (h1 : 1 ≤ n) (h2 : n ≤ 32) (h : kdT[n]? = some (w0, fs)) : kindC[n * 2]? = some (bv w0) ∧ kindC[n * 2 + 1]? = some (bv (fs.map pcd)) := by
  rcases kind_cases h1 h2 with rfl | rfl | rfl | rfl | rfl | rfl | rfl | rfl | rfl | rfl | rfl | rfl | rfl | rfl | rfl | rfl | rfl | rfl | rfl | rfl | rfl | rfl | rfl | rfl | rfl | rfl | rfl | rfl | rfl | rfl | rfl | rfl
  all_goals
    cases h
    exact ⟨rfl, rfl⟩
end Go.Proofs.YtjofegjiakjjhaaDoor
