/-
  The library's contracts (strconv.Atoi, strconv.Itoa, slices.Clone) laid at this program, by the kit's own programs.
-/
import Derived.Shelf.Strconv.Atoi
import Derived.Shelf.Strconv.Itoa0
import Derived.Shelf.Strconv.Itoa1
import Derived.Shelf.LaysM
import Derived.Shelf.Strconv.Itoa2
import Derived.Shelf.Strconv.Itoa3
import Derived.Shelf.Strconv.AtoiErrFast
import Derived.Shelf.Strconv.ParseIntEmpty
import Derived.Shelf.Strconv.AtoiFail
import Derived.Shelf.Strconv.Clone
import Derived.Shelf.Strconv.SyntaxError
import Derived.Shelf.LaysC
import Derived.Shelf.Strconv.ToError
import Derived.Shelf.Strconv.Lower
import Derived.Shelf.Strconv.ParseUint10
import Derived.Shelf.Strconv.ParseUint10Empty
import Derived.Shelf.Strconv.ParseUint10Any
import Derived.Shelf.Strconv.ParseInt10
import Derived.Shelf.Strconv.AtoiLong
import Derived.Shelf.Strconv.AtoiInnerAll
import Derived.Shelf.Strconv.RangeError
import Derived.Shelf.Strconv.ToErrorRange
import Derived.Shelf.Strconv.AtoiAll
import Derived.Shelf.Strconv.ErrVarAll
import Derived.Ground.SlgnProg
import Derived.Shelf.SlicesE.Clone
import Derived.Test.YtdjgijndcjbpiaaGreatDoorProg
namespace Go.Proofs
open Go.Shelf
def Tryz.laysM171_ren : Go.Shelf.Ren := ⟨fun | 171 => 215 | 243 => 218 | 246 => 224 | 283 => 228 | 284 => 229 | 285 => 230 | 286 => 231 | 129 => 235 | 317 => 234 | 318 => 236 | 319 => 237 | 320 => 238 | 337 => 239 | 338 => 240 | n => n, fun | 3 => 3 | 9 => 9 | 2 => 2 | 4 => 4 | 171 => 336 | 0 => 0 | 53 => 313 | 37 => 323 | 5 => 5 | 173 => 339 | 212 => 347 | 51 => 348 | 20 => 20 | 213 => 349 | 46 => 297 | 232 => 352 | 233 => 353 | n => n, fun | 17 => 2 | 18 => 3 | 19 => 4 | n => n⟩
theorem Tryz.laysM171 : Go.Proofs.LaysM.n171 Tryz.prog Tryz.laysM171_ren := {
  mixed := by kernel_rfl
  f129 := Tryz.func235.trans (congrArg some (by kernel_rfl))
  f171 := Tryz.func215.trans (congrArg some (by kernel_rfl))
  f243 := Tryz.func218.trans (congrArg some (by kernel_rfl))
  f246 := Tryz.func224.trans (congrArg some (by kernel_rfl))
  f283 := Tryz.func228.trans (congrArg some (by kernel_rfl))
  f284 := Tryz.func229.trans (congrArg some (by kernel_rfl))
  f285 := Tryz.func230.trans (congrArg some (by kernel_rfl))
  f286 := Tryz.func231.trans (congrArg some (by kernel_rfl))
  f317 := Tryz.func234.trans (congrArg some (by kernel_rfl))
  f318 := Tryz.func236.trans (congrArg some (by kernel_rfl))
  f319 := Tryz.func237.trans (congrArg some (by kernel_rfl))
  f320 := Tryz.func238.trans (congrArg some (by kernel_rfl))
  f337 := Tryz.func239.trans (congrArg some (by kernel_rfl))
  f338 := Tryz.func240.trans (congrArg some (by kernel_rfl))
  t0 := Tryz.underlying0
  a0 := Tryz.isAgg0
  z0 := Tryz.sizeOf0
  v0 := Tryz.zeroValue0
  t2 := Tryz.underlying2
  a2 := Tryz.isAgg2
  z2 := Tryz.sizeOf2
  v2 := Tryz.zeroValue2
  t3 := Tryz.underlying3
  a3 := Tryz.isAgg3
  z3 := Tryz.sizeOf3
  v3 := Tryz.zeroValue3
  t4 := Tryz.underlying4
  a4 := Tryz.isAgg4
  z4 := Tryz.sizeOf4
  v4 := Tryz.zeroValue4
  t5 := Tryz.underlying5
  a5 := Tryz.isAgg5
  z5 := Tryz.sizeOf5
  v5 := Tryz.zeroValue5
  t9 := Tryz.underlying9
  a9 := Tryz.isAgg9
  z9 := Tryz.sizeOf9
  v9 := Tryz.zeroValue9
  t20 := Tryz.underlying20
  a20 := Tryz.isAgg20
  z20 := Tryz.sizeOf20
  v20 := Tryz.zeroValue20
  t37 := Tryz.underlying323
  a37 := Tryz.isAgg323
  z37 := Tryz.sizeOf323
  v37 := Tryz.zeroValue323
  t46 := Tryz.underlying297
  a46 := Tryz.isAgg297
  z46 := Tryz.sizeOf297
  v46 := Tryz.zeroValue297
  t51 := Tryz.underlying348
  a51 := Tryz.isAgg348
  z51 := Tryz.sizeOf348
  v51 := Tryz.zeroValue348
  t53 := Tryz.underlying313
  a53 := Tryz.isAgg313
  z53 := Tryz.sizeOf313
  v53 := Tryz.zeroValue313
  t171 := Tryz.underlying336
  a171 := Tryz.isAgg336
  z171 := Tryz.sizeOf336
  v171 := Tryz.zeroValue336
  t173 := Tryz.underlying339
  a173 := Tryz.isAgg339
  z173 := Tryz.sizeOf339
  v173 := Tryz.zeroValue339
  t212 := Tryz.underlying347
  a212 := Tryz.isAgg347
  z212 := Tryz.sizeOf347
  v212 := Tryz.zeroValue347
  t213 := Tryz.underlying349
  a213 := Tryz.isAgg349
  z213 := Tryz.sizeOf349
  t232 := Tryz.underlying352
  a232 := Tryz.isAgg352
  z232 := Tryz.sizeOf352
  v232 := Tryz.zeroValue352
  t233 := Tryz.underlying353
  a233 := Tryz.isAgg353
  z233 := Tryz.sizeOf353
  v233 := Tryz.zeroValue353
  g17 := by kernel_rfl
  g18 := by kernel_rfl
  g19 := by kernel_rfl
  i0 := by kernel_rfl
  i2 := by kernel_rfl
  i3 := by kernel_rfl
  i4 := by kernel_rfl
  i5 := by kernel_rfl
  i9 := by kernel_rfl
  i20 := by kernel_rfl
  i37 := by kernel_rfl
  i46 := by kernel_rfl
  i51 := by kernel_rfl
  i53 := by kernel_rfl
  i171 := by kernel_rfl
  i173 := by kernel_rfl
  i212 := by kernel_rfl
  i232 := by kernel_rfl
  i233 := by kernel_rfl
  m17 := by kernel_rfl
  m18 := by kernel_rfl
  m19 := by kernel_rfl }
def Tryz.laysC172_ren : Go.Shelf.Ren := ⟨fun | 172 => 214 | 244 => 216 | 245 => 217 | 247 => 219 | 279 => 220 | 280 => 221 | 281 => 222 | 282 => 223 | 287 => 225 | 316 => 226 | 171 => 215 | 205 => 227 | 321 => 232 | 322 => 233 | 243 => 218 | 246 => 224 | 283 => 228 | 284 => 229 | 285 => 230 | 286 => 231 | 129 => 235 | 317 => 234 | 318 => 236 | 319 => 237 | 320 => 238 | 337 => 239 | 338 => 240 | n => n, fun | 9 => 9 | 3 => 3 | 75 => 318 | 76 => 319 | 4 => 4 | 5 => 5 | 167 => 322 | 37 => 323 | 0 => 0 | 85 => 324 | 2 => 2 | 168 => 326 | 53 => 313 | 175 => 330 | 46 => 297 | 210 => 334 | 127 => 342 | 145 => 345 | 143 => 343 | 21 => 21 | 171 => 336 | 173 => 339 | 212 => 347 | 51 => 348 | 20 => 20 | 213 => 349 | 232 => 352 | 233 => 353 | 80 => 354 | n => n, fun | 15 => 0 | 16 => 1 | 17 => 2 | 18 => 3 | 19 => 4 | n => n⟩
theorem Tryz.laysC172 : Go.Proofs.LaysC.n172 Tryz.prog Tryz.laysC172_ren := {
  mixed := by kernel_rfl
  f129 := Tryz.func235.trans (congrArg some (by kernel_rfl))
  f171 := Tryz.func215.trans (congrArg some (by kernel_rfl))
  f172 := Tryz.func214.trans (congrArg some (by kernel_rfl))
  f205 := Tryz.func227.trans (congrArg some (by kernel_rfl))
  f243 := Tryz.func218.trans (congrArg some (by kernel_rfl))
  f244 := Tryz.func216.trans (congrArg some (by kernel_rfl))
  f245 := Tryz.func217.trans (congrArg some (by kernel_rfl))
  f246 := Tryz.func224.trans (congrArg some (by kernel_rfl))
  f247 := Tryz.func219.trans (congrArg some (by kernel_rfl))
  f279 := Tryz.func220.trans (congrArg some (by kernel_rfl))
  f280 := Tryz.func221.trans (congrArg some (by kernel_rfl))
  f281 := Tryz.func222.trans (congrArg some (by kernel_rfl))
  f282 := Tryz.func223.trans (congrArg some (by kernel_rfl))
  f283 := Tryz.func228.trans (congrArg some (by kernel_rfl))
  f284 := Tryz.func229.trans (congrArg some (by kernel_rfl))
  f285 := Tryz.func230.trans (congrArg some (by kernel_rfl))
  f286 := Tryz.func231.trans (congrArg some (by kernel_rfl))
  f287 := Tryz.func225.trans (congrArg some (by kernel_rfl))
  f316 := Tryz.func226.trans (congrArg some (by kernel_rfl))
  f317 := Tryz.func234.trans (congrArg some (by kernel_rfl))
  f318 := Tryz.func236.trans (congrArg some (by kernel_rfl))
  f319 := Tryz.func237.trans (congrArg some (by kernel_rfl))
  f320 := Tryz.func238.trans (congrArg some (by kernel_rfl))
  f321 := Tryz.func232.trans (congrArg some (by kernel_rfl))
  f322 := Tryz.func233.trans (congrArg some (by kernel_rfl))
  f337 := Tryz.func239.trans (congrArg some (by kernel_rfl))
  f338 := Tryz.func240.trans (congrArg some (by kernel_rfl))
  t0 := Tryz.underlying0
  a0 := Tryz.isAgg0
  z0 := Tryz.sizeOf0
  v0 := Tryz.zeroValue0
  t2 := Tryz.underlying2
  a2 := Tryz.isAgg2
  z2 := Tryz.sizeOf2
  v2 := Tryz.zeroValue2
  t3 := Tryz.underlying3
  a3 := Tryz.isAgg3
  z3 := Tryz.sizeOf3
  v3 := Tryz.zeroValue3
  t4 := Tryz.underlying4
  a4 := Tryz.isAgg4
  z4 := Tryz.sizeOf4
  v4 := Tryz.zeroValue4
  t5 := Tryz.underlying5
  a5 := Tryz.isAgg5
  z5 := Tryz.sizeOf5
  v5 := Tryz.zeroValue5
  t9 := Tryz.underlying9
  a9 := Tryz.isAgg9
  z9 := Tryz.sizeOf9
  v9 := Tryz.zeroValue9
  t20 := Tryz.underlying20
  a20 := Tryz.isAgg20
  z20 := Tryz.sizeOf20
  v20 := Tryz.zeroValue20
  t21 := Tryz.underlying21
  a21 := Tryz.isAgg21
  z21 := Tryz.sizeOf21
  v21 := Tryz.zeroValue21
  t37 := Tryz.underlying323
  a37 := Tryz.isAgg323
  z37 := Tryz.sizeOf323
  v37 := Tryz.zeroValue323
  t46 := Tryz.underlying297
  a46 := Tryz.isAgg297
  z46 := Tryz.sizeOf297
  v46 := Tryz.zeroValue297
  t51 := Tryz.underlying348
  a51 := Tryz.isAgg348
  z51 := Tryz.sizeOf348
  v51 := Tryz.zeroValue348
  t53 := Tryz.underlying313
  a53 := Tryz.isAgg313
  z53 := Tryz.sizeOf313
  v53 := Tryz.zeroValue313
  t75 := Tryz.underlying318
  a75 := Tryz.isAgg318
  z75 := Tryz.sizeOf318
  v75 := Tryz.zeroValue318
  t76 := Tryz.underlying319
  a76 := Tryz.isAgg319
  z76 := Tryz.sizeOf319
  v76 := Tryz.zeroValue319
  t85 := Tryz.underlying324
  a85 := Tryz.isAgg324
  z85 := Tryz.sizeOf324
  v85 := Tryz.zeroValue324
  t127 := Tryz.underlying342
  a127 := Tryz.isAgg342
  z127 := Tryz.sizeOf342
  v127 := Tryz.zeroValue342
  t143 := Tryz.underlying343
  a143 := Tryz.isAgg343
  z143 := Tryz.sizeOf343
  v143 := Tryz.zeroValue343
  t145 := Tryz.underlying345
  a145 := Tryz.isAgg345
  z145 := Tryz.sizeOf345
  v145 := Tryz.zeroValue345
  t167 := Tryz.underlying322
  a167 := Tryz.isAgg322
  z167 := Tryz.sizeOf322
  v167 := Tryz.zeroValue322
  t168 := Tryz.underlying326
  a168 := Tryz.isAgg326
  z168 := Tryz.sizeOf326
  v168 := Tryz.zeroValue326
  t171 := Tryz.underlying336
  a171 := Tryz.isAgg336
  z171 := Tryz.sizeOf336
  v171 := Tryz.zeroValue336
  t173 := Tryz.underlying339
  a173 := Tryz.isAgg339
  z173 := Tryz.sizeOf339
  v173 := Tryz.zeroValue339
  t175 := Tryz.underlying330
  a175 := Tryz.isAgg330
  z175 := Tryz.sizeOf330
  v175 := Tryz.zeroValue330
  t210 := Tryz.underlying334
  a210 := Tryz.isAgg334
  z210 := Tryz.sizeOf334
  v210 := Tryz.zeroValue334
  t212 := Tryz.underlying347
  a212 := Tryz.isAgg347
  z212 := Tryz.sizeOf347
  v212 := Tryz.zeroValue347
  t213 := Tryz.underlying349
  a213 := Tryz.isAgg349
  z213 := Tryz.sizeOf349
  t232 := Tryz.underlying352
  a232 := Tryz.isAgg352
  z232 := Tryz.sizeOf352
  v232 := Tryz.zeroValue352
  t233 := Tryz.underlying353
  a233 := Tryz.isAgg353
  z233 := Tryz.sizeOf353
  v233 := Tryz.zeroValue353
  g15 := by kernel_rfl
  g16 := by kernel_rfl
  g17 := by kernel_rfl
  g18 := by kernel_rfl
  g19 := by kernel_rfl
  t80 := Tryz.underlying354
  a80 := Tryz.isAgg354
  z80 := Tryz.sizeOf354
  v80 := Tryz.zeroValue354
  i0 := by kernel_rfl
  i2 := by kernel_rfl
  i3 := by kernel_rfl
  i4 := by kernel_rfl
  i5 := by kernel_rfl
  i9 := by kernel_rfl
  i20 := by kernel_rfl
  i21 := by kernel_rfl
  i37 := by kernel_rfl
  i46 := by kernel_rfl
  i51 := by kernel_rfl
  i53 := by kernel_rfl
  i75 := by kernel_rfl
  i76 := by kernel_rfl
  i80 := by kernel_rfl
  i85 := by kernel_rfl
  i127 := by kernel_rfl
  i143 := by kernel_rfl
  i145 := by kernel_rfl
  i167 := by kernel_rfl
  i168 := by kernel_rfl
  i171 := by kernel_rfl
  i173 := by kernel_rfl
  i175 := by kernel_rfl
  i210 := by kernel_rfl
  i212 := by kernel_rfl
  i232 := by kernel_rfl
  i233 := by kernel_rfl
  m15 := by kernel_rfl
  m16 := by kernel_rfl
  m17 := by kernel_rfl
  m18 := by kernel_rfl
  m19 := by kernel_rfl
  c0 := by kernel_rfl
  c2 := by kernel_rfl
  c3 := by kernel_rfl
  c4 := by kernel_rfl
  c5 := by kernel_rfl
  c9 := by kernel_rfl
  c20 := by kernel_rfl
  c21 := by kernel_rfl
  c37 := by kernel_rfl
  c46 := by kernel_rfl
  c51 := by kernel_rfl
  c53 := by kernel_rfl
  c75 := by kernel_rfl
  c76 := by kernel_rfl
  c80 := by kernel_rfl
  c85 := by kernel_rfl
  c127 := by kernel_rfl
  c143 := by kernel_rfl
  c145 := by kernel_rfl
  c167 := by kernel_rfl
  c168 := by kernel_rfl
  c171 := by kernel_rfl
  c173 := by kernel_rfl
  c175 := by kernel_rfl
  c210 := by kernel_rfl
  c212 := by kernel_rfl
  c213 := by kernel_rfl
  c232 := by kernel_rfl
  c233 := by kernel_rfl }
def Tryz.laysSlE041_f92_ren : Go.Shelf.Ren := ⟨fun | 41 => 92 | n => n, fun | 22 => 22 | 23 => 3 | 4 => 4 | n => n, fun | n => n⟩
theorem Tryz.laysSlE041_f92 : Go.Proofs.SlLaysE0.n41 Tryz.prog Tryz.laysSlE041_f92_ren := {
  mixed := by kernel_rfl
  f41 := ⟨Tryz.f92.name, by decide, Tryz.func92.trans (congrArg some (by kernel_rfl))⟩
  t4 := Tryz.underlying4
  a4 := Tryz.isAgg4
  z4 := Tryz.sizeOf4
  v4 := Tryz.zeroValue4
  t22 := Tryz.underlying22
  a22 := Tryz.isAgg22
  z22 := Tryz.sizeOf22
  v22 := Tryz.zeroValue22 }
end Go.Proofs
