/-
  The library's contracts (strconv.Atoi, strconv.Itoa, slices.Clone) laid at this program, by the kit's own programs.
-/
import Derived.Shelf.Strconv.Atoi
import Derived.Shelf.Strconv.Itoa0
import Derived.Shelf.Strconv.Itoa1
import Derived.Shelf.LaysM
import Derived.Shelf.Strconv.Itoa2
import Derived.Shelf.Strconv.Itoa3
import Derived.Shelf.Strconv.AtoiErrFast
import Derived.Shelf.Strconv.ParseIntEmpty
import Derived.Shelf.Strconv.AtoiFail
import Derived.Shelf.Strconv.Clone
import Derived.Shelf.Strconv.SyntaxError
import Derived.Shelf.LaysC
import Derived.Shelf.Strconv.ToError
import Derived.Shelf.Strconv.Lower
import Derived.Shelf.Strconv.ParseUint10
import Derived.Shelf.Strconv.ParseUint10Empty
import Derived.Shelf.Strconv.ParseUint10Any
import Derived.Shelf.Strconv.ParseInt10
import Derived.Shelf.Strconv.AtoiLong
import Derived.Shelf.Strconv.AtoiInnerAll
import Derived.Shelf.Strconv.RangeError
import Derived.Shelf.Strconv.ToErrorRange
import Derived.Shelf.Strconv.AtoiAll
import Derived.Shelf.Strconv.ErrVarAll
import Derived.Ground.SlgnProg
import Derived.Shelf.SlicesE.Clone
import Derived.Test.YtdjgijndcjbpiaaDoorProg
namespace Go.Proofs
open Go.Shelf
def Tryd.laysM171_ren : Go.Shelf.Ren := ⟨fun | 171 => 80 | 243 => 83 | 246 => 89 | 283 => 93 | 284 => 94 | 285 => 95 | 286 => 96 | 129 => 100 | 317 => 99 | 318 => 101 | 319 => 102 | 320 => 103 | 337 => 104 | 338 => 105 | n => n, fun | 3 => 3 | 9 => 9 | 2 => 2 | 4 => 4 | 171 => 182 | 0 => 0 | 53 => 175 | 37 => 168 | 5 => 5 | 173 => 185 | 212 => 193 | 51 => 194 | 20 => 20 | 213 => 195 | 46 => 158 | 232 => 199 | 233 => 200 | n => n, fun | 17 => 2 | 18 => 3 | 19 => 4 | n => n⟩
theorem Tryd.laysM171 : Go.Proofs.LaysM.n171 Tryd.prog Tryd.laysM171_ren := {
  mixed := by kernel_rfl
  f129 := Tryd.func100.trans (congrArg some (by kernel_rfl))
  f171 := Tryd.func80.trans (congrArg some (by kernel_rfl))
  f243 := Tryd.func83.trans (congrArg some (by kernel_rfl))
  f246 := Tryd.func89.trans (congrArg some (by kernel_rfl))
  f283 := Tryd.func93.trans (congrArg some (by kernel_rfl))
  f284 := Tryd.func94.trans (congrArg some (by kernel_rfl))
  f285 := Tryd.func95.trans (congrArg some (by kernel_rfl))
  f286 := Tryd.func96.trans (congrArg some (by kernel_rfl))
  f317 := Tryd.func99.trans (congrArg some (by kernel_rfl))
  f318 := Tryd.func101.trans (congrArg some (by kernel_rfl))
  f319 := Tryd.func102.trans (congrArg some (by kernel_rfl))
  f320 := Tryd.func103.trans (congrArg some (by kernel_rfl))
  f337 := Tryd.func104.trans (congrArg some (by kernel_rfl))
  f338 := Tryd.func105.trans (congrArg some (by kernel_rfl))
  t0 := Tryd.underlying0
  a0 := Tryd.isAgg0
  z0 := Tryd.sizeOf0
  v0 := Tryd.zeroValue0
  t2 := Tryd.underlying2
  a2 := Tryd.isAgg2
  z2 := Tryd.sizeOf2
  v2 := Tryd.zeroValue2
  t3 := Tryd.underlying3
  a3 := Tryd.isAgg3
  z3 := Tryd.sizeOf3
  v3 := Tryd.zeroValue3
  t4 := Tryd.underlying4
  a4 := Tryd.isAgg4
  z4 := Tryd.sizeOf4
  v4 := Tryd.zeroValue4
  t5 := Tryd.underlying5
  a5 := Tryd.isAgg5
  z5 := Tryd.sizeOf5
  v5 := Tryd.zeroValue5
  t9 := Tryd.underlying9
  a9 := Tryd.isAgg9
  z9 := Tryd.sizeOf9
  v9 := Tryd.zeroValue9
  t20 := Tryd.underlying20
  a20 := Tryd.isAgg20
  z20 := Tryd.sizeOf20
  v20 := Tryd.zeroValue20
  t37 := Tryd.underlying168
  a37 := Tryd.isAgg168
  z37 := Tryd.sizeOf168
  v37 := Tryd.zeroValue168
  t46 := Tryd.underlying158
  a46 := Tryd.isAgg158
  z46 := Tryd.sizeOf158
  v46 := Tryd.zeroValue158
  t51 := Tryd.underlying194
  a51 := Tryd.isAgg194
  z51 := Tryd.sizeOf194
  v51 := Tryd.zeroValue194
  t53 := Tryd.underlying175
  a53 := Tryd.isAgg175
  z53 := Tryd.sizeOf175
  v53 := Tryd.zeroValue175
  t171 := Tryd.underlying182
  a171 := Tryd.isAgg182
  z171 := Tryd.sizeOf182
  v171 := Tryd.zeroValue182
  t173 := Tryd.underlying185
  a173 := Tryd.isAgg185
  z173 := Tryd.sizeOf185
  v173 := Tryd.zeroValue185
  t212 := Tryd.underlying193
  a212 := Tryd.isAgg193
  z212 := Tryd.sizeOf193
  v212 := Tryd.zeroValue193
  t213 := Tryd.underlying195
  a213 := Tryd.isAgg195
  z213 := Tryd.sizeOf195
  t232 := Tryd.underlying199
  a232 := Tryd.isAgg199
  z232 := Tryd.sizeOf199
  v232 := Tryd.zeroValue199
  t233 := Tryd.underlying200
  a233 := Tryd.isAgg200
  z233 := Tryd.sizeOf200
  v233 := Tryd.zeroValue200
  g17 := by kernel_rfl
  g18 := by kernel_rfl
  g19 := by kernel_rfl
  i0 := by kernel_rfl
  i2 := by kernel_rfl
  i3 := by kernel_rfl
  i4 := by kernel_rfl
  i5 := by kernel_rfl
  i9 := by kernel_rfl
  i20 := by kernel_rfl
  i37 := by kernel_rfl
  i46 := by kernel_rfl
  i51 := by kernel_rfl
  i53 := by kernel_rfl
  i171 := by kernel_rfl
  i173 := by kernel_rfl
  i212 := by kernel_rfl
  i232 := by kernel_rfl
  i233 := by kernel_rfl
  m17 := by kernel_rfl
  m18 := by kernel_rfl
  m19 := by kernel_rfl }
def Tryd.laysC172_ren : Go.Shelf.Ren := ⟨fun | 172 => 79 | 244 => 81 | 245 => 82 | 247 => 84 | 279 => 85 | 280 => 86 | 281 => 87 | 282 => 88 | 287 => 90 | 316 => 91 | 171 => 80 | 205 => 92 | 321 => 97 | 322 => 98 | 243 => 83 | 246 => 89 | 283 => 93 | 284 => 94 | 285 => 95 | 286 => 96 | 129 => 100 | 317 => 99 | 318 => 101 | 319 => 102 | 320 => 103 | 337 => 104 | 338 => 105 | n => n, fun | 9 => 9 | 3 => 3 | 75 => 162 | 76 => 163 | 4 => 4 | 5 => 5 | 167 => 167 | 37 => 168 | 0 => 0 | 85 => 169 | 2 => 2 | 168 => 171 | 53 => 175 | 175 => 176 | 46 => 158 | 210 => 180 | 127 => 188 | 145 => 191 | 143 => 189 | 21 => 21 | 171 => 182 | 173 => 185 | 212 => 193 | 51 => 194 | 20 => 20 | 213 => 195 | 232 => 199 | 233 => 200 | 80 => 201 | n => n, fun | 15 => 0 | 16 => 1 | 17 => 2 | 18 => 3 | 19 => 4 | n => n⟩
theorem Tryd.laysC172 : Go.Proofs.LaysC.n172 Tryd.prog Tryd.laysC172_ren := {
  mixed := by kernel_rfl
  f129 := Tryd.func100.trans (congrArg some (by kernel_rfl))
  f171 := Tryd.func80.trans (congrArg some (by kernel_rfl))
  f172 := Tryd.func79.trans (congrArg some (by kernel_rfl))
  f205 := Tryd.func92.trans (congrArg some (by kernel_rfl))
  f243 := Tryd.func83.trans (congrArg some (by kernel_rfl))
  f244 := Tryd.func81.trans (congrArg some (by kernel_rfl))
  f245 := Tryd.func82.trans (congrArg some (by kernel_rfl))
  f246 := Tryd.func89.trans (congrArg some (by kernel_rfl))
  f247 := Tryd.func84.trans (congrArg some (by kernel_rfl))
  f279 := Tryd.func85.trans (congrArg some (by kernel_rfl))
  f280 := Tryd.func86.trans (congrArg some (by kernel_rfl))
  f281 := Tryd.func87.trans (congrArg some (by kernel_rfl))
  f282 := Tryd.func88.trans (congrArg some (by kernel_rfl))
  f283 := Tryd.func93.trans (congrArg some (by kernel_rfl))
  f284 := Tryd.func94.trans (congrArg some (by kernel_rfl))
  f285 := Tryd.func95.trans (congrArg some (by kernel_rfl))
  f286 := Tryd.func96.trans (congrArg some (by kernel_rfl))
  f287 := Tryd.func90.trans (congrArg some (by kernel_rfl))
  f316 := Tryd.func91.trans (congrArg some (by kernel_rfl))
  f317 := Tryd.func99.trans (congrArg some (by kernel_rfl))
  f318 := Tryd.func101.trans (congrArg some (by kernel_rfl))
  f319 := Tryd.func102.trans (congrArg some (by kernel_rfl))
  f320 := Tryd.func103.trans (congrArg some (by kernel_rfl))
  f321 := Tryd.func97.trans (congrArg some (by kernel_rfl))
  f322 := Tryd.func98.trans (congrArg some (by kernel_rfl))
  f337 := Tryd.func104.trans (congrArg some (by kernel_rfl))
  f338 := Tryd.func105.trans (congrArg some (by kernel_rfl))
  t0 := Tryd.underlying0
  a0 := Tryd.isAgg0
  z0 := Tryd.sizeOf0
  v0 := Tryd.zeroValue0
  t2 := Tryd.underlying2
  a2 := Tryd.isAgg2
  z2 := Tryd.sizeOf2
  v2 := Tryd.zeroValue2
  t3 := Tryd.underlying3
  a3 := Tryd.isAgg3
  z3 := Tryd.sizeOf3
  v3 := Tryd.zeroValue3
  t4 := Tryd.underlying4
  a4 := Tryd.isAgg4
  z4 := Tryd.sizeOf4
  v4 := Tryd.zeroValue4
  t5 := Tryd.underlying5
  a5 := Tryd.isAgg5
  z5 := Tryd.sizeOf5
  v5 := Tryd.zeroValue5
  t9 := Tryd.underlying9
  a9 := Tryd.isAgg9
  z9 := Tryd.sizeOf9
  v9 := Tryd.zeroValue9
  t20 := Tryd.underlying20
  a20 := Tryd.isAgg20
  z20 := Tryd.sizeOf20
  v20 := Tryd.zeroValue20
  t21 := Tryd.underlying21
  a21 := Tryd.isAgg21
  z21 := Tryd.sizeOf21
  v21 := Tryd.zeroValue21
  t37 := Tryd.underlying168
  a37 := Tryd.isAgg168
  z37 := Tryd.sizeOf168
  v37 := Tryd.zeroValue168
  t46 := Tryd.underlying158
  a46 := Tryd.isAgg158
  z46 := Tryd.sizeOf158
  v46 := Tryd.zeroValue158
  t51 := Tryd.underlying194
  a51 := Tryd.isAgg194
  z51 := Tryd.sizeOf194
  v51 := Tryd.zeroValue194
  t53 := Tryd.underlying175
  a53 := Tryd.isAgg175
  z53 := Tryd.sizeOf175
  v53 := Tryd.zeroValue175
  t75 := Tryd.underlying162
  a75 := Tryd.isAgg162
  z75 := Tryd.sizeOf162
  v75 := Tryd.zeroValue162
  t76 := Tryd.underlying163
  a76 := Tryd.isAgg163
  z76 := Tryd.sizeOf163
  v76 := Tryd.zeroValue163
  t85 := Tryd.underlying169
  a85 := Tryd.isAgg169
  z85 := Tryd.sizeOf169
  v85 := Tryd.zeroValue169
  t127 := Tryd.underlying188
  a127 := Tryd.isAgg188
  z127 := Tryd.sizeOf188
  v127 := Tryd.zeroValue188
  t143 := Tryd.underlying189
  a143 := Tryd.isAgg189
  z143 := Tryd.sizeOf189
  v143 := Tryd.zeroValue189
  t145 := Tryd.underlying191
  a145 := Tryd.isAgg191
  z145 := Tryd.sizeOf191
  v145 := Tryd.zeroValue191
  t167 := Tryd.underlying167
  a167 := Tryd.isAgg167
  z167 := Tryd.sizeOf167
  v167 := Tryd.zeroValue167
  t168 := Tryd.underlying171
  a168 := Tryd.isAgg171
  z168 := Tryd.sizeOf171
  v168 := Tryd.zeroValue171
  t171 := Tryd.underlying182
  a171 := Tryd.isAgg182
  z171 := Tryd.sizeOf182
  v171 := Tryd.zeroValue182
  t173 := Tryd.underlying185
  a173 := Tryd.isAgg185
  z173 := Tryd.sizeOf185
  v173 := Tryd.zeroValue185
  t175 := Tryd.underlying176
  a175 := Tryd.isAgg176
  z175 := Tryd.sizeOf176
  v175 := Tryd.zeroValue176
  t210 := Tryd.underlying180
  a210 := Tryd.isAgg180
  z210 := Tryd.sizeOf180
  v210 := Tryd.zeroValue180
  t212 := Tryd.underlying193
  a212 := Tryd.isAgg193
  z212 := Tryd.sizeOf193
  v212 := Tryd.zeroValue193
  t213 := Tryd.underlying195
  a213 := Tryd.isAgg195
  z213 := Tryd.sizeOf195
  t232 := Tryd.underlying199
  a232 := Tryd.isAgg199
  z232 := Tryd.sizeOf199
  v232 := Tryd.zeroValue199
  t233 := Tryd.underlying200
  a233 := Tryd.isAgg200
  z233 := Tryd.sizeOf200
  v233 := Tryd.zeroValue200
  g15 := by kernel_rfl
  g16 := by kernel_rfl
  g17 := by kernel_rfl
  g18 := by kernel_rfl
  g19 := by kernel_rfl
  t80 := Tryd.underlying201
  a80 := Tryd.isAgg201
  z80 := Tryd.sizeOf201
  v80 := Tryd.zeroValue201
  i0 := by kernel_rfl
  i2 := by kernel_rfl
  i3 := by kernel_rfl
  i4 := by kernel_rfl
  i5 := by kernel_rfl
  i9 := by kernel_rfl
  i20 := by kernel_rfl
  i21 := by kernel_rfl
  i37 := by kernel_rfl
  i46 := by kernel_rfl
  i51 := by kernel_rfl
  i53 := by kernel_rfl
  i75 := by kernel_rfl
  i76 := by kernel_rfl
  i80 := by kernel_rfl
  i85 := by kernel_rfl
  i127 := by kernel_rfl
  i143 := by kernel_rfl
  i145 := by kernel_rfl
  i167 := by kernel_rfl
  i168 := by kernel_rfl
  i171 := by kernel_rfl
  i173 := by kernel_rfl
  i175 := by kernel_rfl
  i210 := by kernel_rfl
  i212 := by kernel_rfl
  i232 := by kernel_rfl
  i233 := by kernel_rfl
  m15 := by kernel_rfl
  m16 := by kernel_rfl
  m17 := by kernel_rfl
  m18 := by kernel_rfl
  m19 := by kernel_rfl
  c0 := by kernel_rfl
  c2 := by kernel_rfl
  c3 := by kernel_rfl
  c4 := by kernel_rfl
  c5 := by kernel_rfl
  c9 := by kernel_rfl
  c20 := by kernel_rfl
  c21 := by kernel_rfl
  c37 := by kernel_rfl
  c46 := by kernel_rfl
  c51 := by kernel_rfl
  c53 := by kernel_rfl
  c75 := by kernel_rfl
  c76 := by kernel_rfl
  c80 := by kernel_rfl
  c85 := by kernel_rfl
  c127 := by kernel_rfl
  c143 := by kernel_rfl
  c145 := by kernel_rfl
  c167 := by kernel_rfl
  c168 := by kernel_rfl
  c171 := by kernel_rfl
  c173 := by kernel_rfl
  c175 := by kernel_rfl
  c210 := by kernel_rfl
  c212 := by kernel_rfl
  c213 := by kernel_rfl
  c232 := by kernel_rfl
  c233 := by kernel_rfl }
def Tryd.laysSlE041_f22_ren : Go.Shelf.Ren := ⟨fun | 41 => 22 | n => n, fun | 22 => 55 | 23 => 3 | 4 => 4 | n => n, fun | n => n⟩
theorem Tryd.laysSlE041_f22 : Go.Proofs.SlLaysE0.n41 Tryd.prog Tryd.laysSlE041_f22_ren := {
  mixed := by kernel_rfl
  f41 := ⟨Tryd.f22.name, by decide, Tryd.func22.trans (congrArg some (by kernel_rfl))⟩
  t4 := Tryd.underlying4
  a4 := Tryd.isAgg4
  z4 := Tryd.sizeOf4
  v4 := Tryd.zeroValue4
  t22 := Tryd.underlying55
  a22 := Tryd.isAgg55
  z22 := Tryd.sizeOf55
  v22 := Tryd.zeroValue55 }
end Go.Proofs
