/-
  The library's contracts (strconv.Atoi, strconv.Itoa, slices.Clone) laid at this program, by the kit's own programs.
-/
import Derived.Shelf.Strconv.Atoi
import Derived.Shelf.Strconv.Itoa0
import Derived.Shelf.Strconv.Itoa1
import Derived.Shelf.LaysM
import Derived.Shelf.Strconv.Itoa2
import Derived.Shelf.Strconv.Itoa3
import Derived.Shelf.Strconv.AtoiErrFast
import Derived.Shelf.Strconv.ParseIntEmpty
import Derived.Shelf.Strconv.AtoiFail
import Derived.Shelf.Strconv.Clone
import Derived.Shelf.Strconv.SyntaxError
import Derived.Shelf.LaysC
import Derived.Shelf.Strconv.ToError
import Derived.Shelf.Strconv.Lower
import Derived.Shelf.Strconv.ParseUint10
import Derived.Shelf.Strconv.ParseUint10Empty
import Derived.Shelf.Strconv.ParseUint10Any
import Derived.Shelf.Strconv.ParseInt10
import Derived.Shelf.Strconv.AtoiLong
import Derived.Shelf.Strconv.AtoiInnerAll
import Derived.Shelf.Strconv.RangeError
import Derived.Shelf.Strconv.ToErrorRange
import Derived.Shelf.Strconv.AtoiAll
import Derived.Shelf.Strconv.ErrVarAll
import Derived.Ground.SlgnProg
import Derived.Shelf.SlicesE.Clone
import Derived.Test.YtnkjjhenfhnajaaDoorProg
namespace Go.Proofs
open Go.Shelf
def Tryd.laysM171_ren : Go.Shelf.Ren := ⟨fun | 171 => 71 | 243 => 74 | 246 => 80 | 283 => 84 | 284 => 85 | 285 => 86 | 286 => 87 | 129 => 91 | 317 => 90 | 318 => 92 | 319 => 93 | 320 => 94 | 337 => 95 | 338 => 96 | n => n, fun | 3 => 3 | 9 => 9 | 2 => 2 | 4 => 4 | 171 => 171 | 0 => 0 | 53 => 164 | 37 => 157 | 5 => 5 | 173 => 174 | 212 => 182 | 51 => 183 | 20 => 20 | 213 => 184 | 46 => 136 | 232 => 188 | 233 => 189 | n => n, fun | 17 => 2 | 18 => 3 | 19 => 4 | n => n⟩
theorem Tryd.laysM171 : Go.Proofs.LaysM.n171 Tryd.prog Tryd.laysM171_ren := {
  mixed := by kernel_rfl
  f129 := Tryd.func91.trans (congrArg some (by kernel_rfl))
  f171 := Tryd.func71.trans (congrArg some (by kernel_rfl))
  f243 := Tryd.func74.trans (congrArg some (by kernel_rfl))
  f246 := Tryd.func80.trans (congrArg some (by kernel_rfl))
  f283 := Tryd.func84.trans (congrArg some (by kernel_rfl))
  f284 := Tryd.func85.trans (congrArg some (by kernel_rfl))
  f285 := Tryd.func86.trans (congrArg some (by kernel_rfl))
  f286 := Tryd.func87.trans (congrArg some (by kernel_rfl))
  f317 := Tryd.func90.trans (congrArg some (by kernel_rfl))
  f318 := Tryd.func92.trans (congrArg some (by kernel_rfl))
  f319 := Tryd.func93.trans (congrArg some (by kernel_rfl))
  f320 := Tryd.func94.trans (congrArg some (by kernel_rfl))
  f337 := Tryd.func95.trans (congrArg some (by kernel_rfl))
  f338 := Tryd.func96.trans (congrArg some (by kernel_rfl))
  t0 := Tryd.underlying0
  a0 := Tryd.isAgg0
  z0 := Tryd.sizeOf0
  v0 := Tryd.zeroValue0
  t2 := Tryd.underlying2
  a2 := Tryd.isAgg2
  z2 := Tryd.sizeOf2
  v2 := Tryd.zeroValue2
  t3 := Tryd.underlying3
  a3 := Tryd.isAgg3
  z3 := Tryd.sizeOf3
  v3 := Tryd.zeroValue3
  t4 := Tryd.underlying4
  a4 := Tryd.isAgg4
  z4 := Tryd.sizeOf4
  v4 := Tryd.zeroValue4
  t5 := Tryd.underlying5
  a5 := Tryd.isAgg5
  z5 := Tryd.sizeOf5
  v5 := Tryd.zeroValue5
  t9 := Tryd.underlying9
  a9 := Tryd.isAgg9
  z9 := Tryd.sizeOf9
  v9 := Tryd.zeroValue9
  t20 := Tryd.underlying20
  a20 := Tryd.isAgg20
  z20 := Tryd.sizeOf20
  v20 := Tryd.zeroValue20
  t37 := Tryd.underlying157
  a37 := Tryd.isAgg157
  z37 := Tryd.sizeOf157
  v37 := Tryd.zeroValue157
  t46 := Tryd.underlying136
  a46 := Tryd.isAgg136
  z46 := Tryd.sizeOf136
  v46 := Tryd.zeroValue136
  t51 := Tryd.underlying183
  a51 := Tryd.isAgg183
  z51 := Tryd.sizeOf183
  v51 := Tryd.zeroValue183
  t53 := Tryd.underlying164
  a53 := Tryd.isAgg164
  z53 := Tryd.sizeOf164
  v53 := Tryd.zeroValue164
  t171 := Tryd.underlying171
  a171 := Tryd.isAgg171
  z171 := Tryd.sizeOf171
  v171 := Tryd.zeroValue171
  t173 := Tryd.underlying174
  a173 := Tryd.isAgg174
  z173 := Tryd.sizeOf174
  v173 := Tryd.zeroValue174
  t212 := Tryd.underlying182
  a212 := Tryd.isAgg182
  z212 := Tryd.sizeOf182
  v212 := Tryd.zeroValue182
  t213 := Tryd.underlying184
  a213 := Tryd.isAgg184
  z213 := Tryd.sizeOf184
  t232 := Tryd.underlying188
  a232 := Tryd.isAgg188
  z232 := Tryd.sizeOf188
  v232 := Tryd.zeroValue188
  t233 := Tryd.underlying189
  a233 := Tryd.isAgg189
  z233 := Tryd.sizeOf189
  v233 := Tryd.zeroValue189
  g17 := by kernel_rfl
  g18 := by kernel_rfl
  g19 := by kernel_rfl
  i0 := by kernel_rfl
  i2 := by kernel_rfl
  i3 := by kernel_rfl
  i4 := by kernel_rfl
  i5 := by kernel_rfl
  i9 := by kernel_rfl
  i20 := by kernel_rfl
  i37 := by kernel_rfl
  i46 := by kernel_rfl
  i51 := by kernel_rfl
  i53 := by kernel_rfl
  i171 := by kernel_rfl
  i173 := by kernel_rfl
  i212 := by kernel_rfl
  i232 := by kernel_rfl
  i233 := by kernel_rfl
  m17 := by kernel_rfl
  m18 := by kernel_rfl
  m19 := by kernel_rfl }
def Tryd.laysC172_ren : Go.Shelf.Ren := ⟨fun | 172 => 70 | 244 => 72 | 245 => 73 | 247 => 75 | 279 => 76 | 280 => 77 | 281 => 78 | 282 => 79 | 287 => 81 | 316 => 82 | 171 => 71 | 205 => 83 | 321 => 88 | 322 => 89 | 243 => 74 | 246 => 80 | 283 => 84 | 284 => 85 | 285 => 86 | 286 => 87 | 129 => 91 | 317 => 90 | 318 => 92 | 319 => 93 | 320 => 94 | 337 => 95 | 338 => 96 | n => n, fun | 9 => 9 | 3 => 3 | 75 => 151 | 76 => 152 | 4 => 4 | 5 => 5 | 167 => 156 | 37 => 157 | 0 => 0 | 85 => 158 | 2 => 2 | 168 => 160 | 53 => 164 | 175 => 165 | 46 => 136 | 210 => 169 | 127 => 177 | 145 => 180 | 143 => 178 | 21 => 21 | 171 => 171 | 173 => 174 | 212 => 182 | 51 => 183 | 20 => 20 | 213 => 184 | 232 => 188 | 233 => 189 | 80 => 190 | n => n, fun | 15 => 0 | 16 => 1 | 17 => 2 | 18 => 3 | 19 => 4 | n => n⟩
theorem Tryd.laysC172 : Go.Proofs.LaysC.n172 Tryd.prog Tryd.laysC172_ren := {
  mixed := by kernel_rfl
  f129 := Tryd.func91.trans (congrArg some (by kernel_rfl))
  f171 := Tryd.func71.trans (congrArg some (by kernel_rfl))
  f172 := Tryd.func70.trans (congrArg some (by kernel_rfl))
  f205 := Tryd.func83.trans (congrArg some (by kernel_rfl))
  f243 := Tryd.func74.trans (congrArg some (by kernel_rfl))
  f244 := Tryd.func72.trans (congrArg some (by kernel_rfl))
  f245 := Tryd.func73.trans (congrArg some (by kernel_rfl))
  f246 := Tryd.func80.trans (congrArg some (by kernel_rfl))
  f247 := Tryd.func75.trans (congrArg some (by kernel_rfl))
  f279 := Tryd.func76.trans (congrArg some (by kernel_rfl))
  f280 := Tryd.func77.trans (congrArg some (by kernel_rfl))
  f281 := Tryd.func78.trans (congrArg some (by kernel_rfl))
  f282 := Tryd.func79.trans (congrArg some (by kernel_rfl))
  f283 := Tryd.func84.trans (congrArg some (by kernel_rfl))
  f284 := Tryd.func85.trans (congrArg some (by kernel_rfl))
  f285 := Tryd.func86.trans (congrArg some (by kernel_rfl))
  f286 := Tryd.func87.trans (congrArg some (by kernel_rfl))
  f287 := Tryd.func81.trans (congrArg some (by kernel_rfl))
  f316 := Tryd.func82.trans (congrArg some (by kernel_rfl))
  f317 := Tryd.func90.trans (congrArg some (by kernel_rfl))
  f318 := Tryd.func92.trans (congrArg some (by kernel_rfl))
  f319 := Tryd.func93.trans (congrArg some (by kernel_rfl))
  f320 := Tryd.func94.trans (congrArg some (by kernel_rfl))
  f321 := Tryd.func88.trans (congrArg some (by kernel_rfl))
  f322 := Tryd.func89.trans (congrArg some (by kernel_rfl))
  f337 := Tryd.func95.trans (congrArg some (by kernel_rfl))
  f338 := Tryd.func96.trans (congrArg some (by kernel_rfl))
  t0 := Tryd.underlying0
  a0 := Tryd.isAgg0
  z0 := Tryd.sizeOf0
  v0 := Tryd.zeroValue0
  t2 := Tryd.underlying2
  a2 := Tryd.isAgg2
  z2 := Tryd.sizeOf2
  v2 := Tryd.zeroValue2
  t3 := Tryd.underlying3
  a3 := Tryd.isAgg3
  z3 := Tryd.sizeOf3
  v3 := Tryd.zeroValue3
  t4 := Tryd.underlying4
  a4 := Tryd.isAgg4
  z4 := Tryd.sizeOf4
  v4 := Tryd.zeroValue4
  t5 := Tryd.underlying5
  a5 := Tryd.isAgg5
  z5 := Tryd.sizeOf5
  v5 := Tryd.zeroValue5
  t9 := Tryd.underlying9
  a9 := Tryd.isAgg9
  z9 := Tryd.sizeOf9
  v9 := Tryd.zeroValue9
  t20 := Tryd.underlying20
  a20 := Tryd.isAgg20
  z20 := Tryd.sizeOf20
  v20 := Tryd.zeroValue20
  t21 := Tryd.underlying21
  a21 := Tryd.isAgg21
  z21 := Tryd.sizeOf21
  v21 := Tryd.zeroValue21
  t37 := Tryd.underlying157
  a37 := Tryd.isAgg157
  z37 := Tryd.sizeOf157
  v37 := Tryd.zeroValue157
  t46 := Tryd.underlying136
  a46 := Tryd.isAgg136
  z46 := Tryd.sizeOf136
  v46 := Tryd.zeroValue136
  t51 := Tryd.underlying183
  a51 := Tryd.isAgg183
  z51 := Tryd.sizeOf183
  v51 := Tryd.zeroValue183
  t53 := Tryd.underlying164
  a53 := Tryd.isAgg164
  z53 := Tryd.sizeOf164
  v53 := Tryd.zeroValue164
  t75 := Tryd.underlying151
  a75 := Tryd.isAgg151
  z75 := Tryd.sizeOf151
  v75 := Tryd.zeroValue151
  t76 := Tryd.underlying152
  a76 := Tryd.isAgg152
  z76 := Tryd.sizeOf152
  v76 := Tryd.zeroValue152
  t85 := Tryd.underlying158
  a85 := Tryd.isAgg158
  z85 := Tryd.sizeOf158
  v85 := Tryd.zeroValue158
  t127 := Tryd.underlying177
  a127 := Tryd.isAgg177
  z127 := Tryd.sizeOf177
  v127 := Tryd.zeroValue177
  t143 := Tryd.underlying178
  a143 := Tryd.isAgg178
  z143 := Tryd.sizeOf178
  v143 := Tryd.zeroValue178
  t145 := Tryd.underlying180
  a145 := Tryd.isAgg180
  z145 := Tryd.sizeOf180
  v145 := Tryd.zeroValue180
  t167 := Tryd.underlying156
  a167 := Tryd.isAgg156
  z167 := Tryd.sizeOf156
  v167 := Tryd.zeroValue156
  t168 := Tryd.underlying160
  a168 := Tryd.isAgg160
  z168 := Tryd.sizeOf160
  v168 := Tryd.zeroValue160
  t171 := Tryd.underlying171
  a171 := Tryd.isAgg171
  z171 := Tryd.sizeOf171
  v171 := Tryd.zeroValue171
  t173 := Tryd.underlying174
  a173 := Tryd.isAgg174
  z173 := Tryd.sizeOf174
  v173 := Tryd.zeroValue174
  t175 := Tryd.underlying165
  a175 := Tryd.isAgg165
  z175 := Tryd.sizeOf165
  v175 := Tryd.zeroValue165
  t210 := Tryd.underlying169
  a210 := Tryd.isAgg169
  z210 := Tryd.sizeOf169
  v210 := Tryd.zeroValue169
  t212 := Tryd.underlying182
  a212 := Tryd.isAgg182
  z212 := Tryd.sizeOf182
  v212 := Tryd.zeroValue182
  t213 := Tryd.underlying184
  a213 := Tryd.isAgg184
  z213 := Tryd.sizeOf184
  t232 := Tryd.underlying188
  a232 := Tryd.isAgg188
  z232 := Tryd.sizeOf188
  v232 := Tryd.zeroValue188
  t233 := Tryd.underlying189
  a233 := Tryd.isAgg189
  z233 := Tryd.sizeOf189
  v233 := Tryd.zeroValue189
  g15 := by kernel_rfl
  g16 := by kernel_rfl
  g17 := by kernel_rfl
  g18 := by kernel_rfl
  g19 := by kernel_rfl
  t80 := Tryd.underlying190
  a80 := Tryd.isAgg190
  z80 := Tryd.sizeOf190
  v80 := Tryd.zeroValue190
  i0 := by kernel_rfl
  i2 := by kernel_rfl
  i3 := by kernel_rfl
  i4 := by kernel_rfl
  i5 := by kernel_rfl
  i9 := by kernel_rfl
  i20 := by kernel_rfl
  i21 := by kernel_rfl
  i37 := by kernel_rfl
  i46 := by kernel_rfl
  i51 := by kernel_rfl
  i53 := by kernel_rfl
  i75 := by kernel_rfl
  i76 := by kernel_rfl
  i80 := by kernel_rfl
  i85 := by kernel_rfl
  i127 := by kernel_rfl
  i143 := by kernel_rfl
  i145 := by kernel_rfl
  i167 := by kernel_rfl
  i168 := by kernel_rfl
  i171 := by kernel_rfl
  i173 := by kernel_rfl
  i175 := by kernel_rfl
  i210 := by kernel_rfl
  i212 := by kernel_rfl
  i232 := by kernel_rfl
  i233 := by kernel_rfl
  m15 := by kernel_rfl
  m16 := by kernel_rfl
  m17 := by kernel_rfl
  m18 := by kernel_rfl
  m19 := by kernel_rfl
  c0 := by kernel_rfl
  c2 := by kernel_rfl
  c3 := by kernel_rfl
  c4 := by kernel_rfl
  c5 := by kernel_rfl
  c9 := by kernel_rfl
  c20 := by kernel_rfl
  c21 := by kernel_rfl
  c37 := by kernel_rfl
  c46 := by kernel_rfl
  c51 := by kernel_rfl
  c53 := by kernel_rfl
  c75 := by kernel_rfl
  c76 := by kernel_rfl
  c80 := by kernel_rfl
  c85 := by kernel_rfl
  c127 := by kernel_rfl
  c143 := by kernel_rfl
  c145 := by kernel_rfl
  c167 := by kernel_rfl
  c168 := by kernel_rfl
  c171 := by kernel_rfl
  c173 := by kernel_rfl
  c175 := by kernel_rfl
  c210 := by kernel_rfl
  c212 := by kernel_rfl
  c213 := by kernel_rfl
  c232 := by kernel_rfl
  c233 := by kernel_rfl }
def Tryd.laysSlE041_f18_ren : Go.Shelf.Ren := ⟨fun | 41 => 18 | n => n, fun | 22 => 55 | 23 => 3 | 4 => 4 | n => n, fun | n => n⟩
theorem Tryd.laysSlE041_f18 : Go.Proofs.SlLaysE0.n41 Tryd.prog Tryd.laysSlE041_f18_ren := {
  mixed := by kernel_rfl
  f41 := ⟨Tryd.f18.name, by decide, Tryd.func18.trans (congrArg some (by kernel_rfl))⟩
  t4 := Tryd.underlying4
  a4 := Tryd.isAgg4
  z4 := Tryd.sizeOf4
  v4 := Tryd.zeroValue4
  t22 := Tryd.underlying55
  a22 := Tryd.isAgg55
  z22 := Tryd.sizeOf55
  v22 := Tryd.zeroValue55 }
end Go.Proofs
