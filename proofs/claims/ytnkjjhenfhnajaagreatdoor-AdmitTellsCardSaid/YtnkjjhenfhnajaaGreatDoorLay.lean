/-
  The library's contracts (strconv.Atoi, strconv.Itoa, slices.Clone) laid at this program, by the kit's own programs.
-/
import Derived.Shelf.Strconv.Atoi
import Derived.Shelf.Strconv.Itoa0
import Derived.Shelf.Strconv.Itoa1
import Derived.Shelf.LaysM
import Derived.Shelf.Strconv.Itoa2
import Derived.Shelf.Strconv.Itoa3
import Derived.Shelf.Strconv.AtoiErrFast
import Derived.Shelf.Strconv.ParseIntEmpty
import Derived.Shelf.Strconv.AtoiFail
import Derived.Shelf.Strconv.Clone
import Derived.Shelf.Strconv.SyntaxError
import Derived.Shelf.LaysC
import Derived.Shelf.Strconv.ToError
import Derived.Shelf.Strconv.Lower
import Derived.Shelf.Strconv.ParseUint10
import Derived.Shelf.Strconv.ParseUint10Empty
import Derived.Shelf.Strconv.ParseUint10Any
import Derived.Shelf.Strconv.ParseInt10
import Derived.Shelf.Strconv.AtoiLong
import Derived.Shelf.Strconv.AtoiInnerAll
import Derived.Shelf.Strconv.RangeError
import Derived.Shelf.Strconv.ToErrorRange
import Derived.Shelf.Strconv.AtoiAll
import Derived.Shelf.Strconv.ErrVarAll
import Derived.Ground.SlgnProg
import Derived.Shelf.SlicesE.Clone
import Derived.Test.YtnkjjhenfhnajaaGreatDoorProg
namespace Go.Proofs
open Go.Shelf
def Tryz.laysM171_ren : Go.Shelf.Ren := ⟨fun | 171 => 203 | 243 => 206 | 246 => 212 | 283 => 216 | 284 => 217 | 285 => 218 | 286 => 219 | 129 => 223 | 317 => 222 | 318 => 224 | 319 => 225 | 320 => 226 | 337 => 227 | 338 => 228 | n => n, fun | 3 => 3 | 9 => 9 | 2 => 2 | 4 => 4 | 171 => 325 | 0 => 0 | 53 => 302 | 37 => 312 | 5 => 5 | 173 => 328 | 212 => 336 | 51 => 337 | 20 => 20 | 213 => 338 | 46 => 286 | 232 => 341 | 233 => 342 | n => n, fun | 17 => 2 | 18 => 3 | 19 => 4 | n => n⟩
theorem Tryz.laysM171 : Go.Proofs.LaysM.n171 Tryz.prog Tryz.laysM171_ren := {
  mixed := by kernel_rfl
  f129 := Tryz.func223.trans (congrArg some (by kernel_rfl))
  f171 := Tryz.func203.trans (congrArg some (by kernel_rfl))
  f243 := Tryz.func206.trans (congrArg some (by kernel_rfl))
  f246 := Tryz.func212.trans (congrArg some (by kernel_rfl))
  f283 := Tryz.func216.trans (congrArg some (by kernel_rfl))
  f284 := Tryz.func217.trans (congrArg some (by kernel_rfl))
  f285 := Tryz.func218.trans (congrArg some (by kernel_rfl))
  f286 := Tryz.func219.trans (congrArg some (by kernel_rfl))
  f317 := Tryz.func222.trans (congrArg some (by kernel_rfl))
  f318 := Tryz.func224.trans (congrArg some (by kernel_rfl))
  f319 := Tryz.func225.trans (congrArg some (by kernel_rfl))
  f320 := Tryz.func226.trans (congrArg some (by kernel_rfl))
  f337 := Tryz.func227.trans (congrArg some (by kernel_rfl))
  f338 := Tryz.func228.trans (congrArg some (by kernel_rfl))
  t0 := Tryz.underlying0
  a0 := Tryz.isAgg0
  z0 := Tryz.sizeOf0
  v0 := Tryz.zeroValue0
  t2 := Tryz.underlying2
  a2 := Tryz.isAgg2
  z2 := Tryz.sizeOf2
  v2 := Tryz.zeroValue2
  t3 := Tryz.underlying3
  a3 := Tryz.isAgg3
  z3 := Tryz.sizeOf3
  v3 := Tryz.zeroValue3
  t4 := Tryz.underlying4
  a4 := Tryz.isAgg4
  z4 := Tryz.sizeOf4
  v4 := Tryz.zeroValue4
  t5 := Tryz.underlying5
  a5 := Tryz.isAgg5
  z5 := Tryz.sizeOf5
  v5 := Tryz.zeroValue5
  t9 := Tryz.underlying9
  a9 := Tryz.isAgg9
  z9 := Tryz.sizeOf9
  v9 := Tryz.zeroValue9
  t20 := Tryz.underlying20
  a20 := Tryz.isAgg20
  z20 := Tryz.sizeOf20
  v20 := Tryz.zeroValue20
  t37 := Tryz.underlying312
  a37 := Tryz.isAgg312
  z37 := Tryz.sizeOf312
  v37 := Tryz.zeroValue312
  t46 := Tryz.underlying286
  a46 := Tryz.isAgg286
  z46 := Tryz.sizeOf286
  v46 := Tryz.zeroValue286
  t51 := Tryz.underlying337
  a51 := Tryz.isAgg337
  z51 := Tryz.sizeOf337
  v51 := Tryz.zeroValue337
  t53 := Tryz.underlying302
  a53 := Tryz.isAgg302
  z53 := Tryz.sizeOf302
  v53 := Tryz.zeroValue302
  t171 := Tryz.underlying325
  a171 := Tryz.isAgg325
  z171 := Tryz.sizeOf325
  v171 := Tryz.zeroValue325
  t173 := Tryz.underlying328
  a173 := Tryz.isAgg328
  z173 := Tryz.sizeOf328
  v173 := Tryz.zeroValue328
  t212 := Tryz.underlying336
  a212 := Tryz.isAgg336
  z212 := Tryz.sizeOf336
  v212 := Tryz.zeroValue336
  t213 := Tryz.underlying338
  a213 := Tryz.isAgg338
  z213 := Tryz.sizeOf338
  t232 := Tryz.underlying341
  a232 := Tryz.isAgg341
  z232 := Tryz.sizeOf341
  v232 := Tryz.zeroValue341
  t233 := Tryz.underlying342
  a233 := Tryz.isAgg342
  z233 := Tryz.sizeOf342
  v233 := Tryz.zeroValue342
  g17 := by kernel_rfl
  g18 := by kernel_rfl
  g19 := by kernel_rfl
  i0 := by kernel_rfl
  i2 := by kernel_rfl
  i3 := by kernel_rfl
  i4 := by kernel_rfl
  i5 := by kernel_rfl
  i9 := by kernel_rfl
  i20 := by kernel_rfl
  i37 := by kernel_rfl
  i46 := by kernel_rfl
  i51 := by kernel_rfl
  i53 := by kernel_rfl
  i171 := by kernel_rfl
  i173 := by kernel_rfl
  i212 := by kernel_rfl
  i232 := by kernel_rfl
  i233 := by kernel_rfl
  m17 := by kernel_rfl
  m18 := by kernel_rfl
  m19 := by kernel_rfl }
def Tryz.laysC172_ren : Go.Shelf.Ren := ⟨fun | 172 => 202 | 244 => 204 | 245 => 205 | 247 => 207 | 279 => 208 | 280 => 209 | 281 => 210 | 282 => 211 | 287 => 213 | 316 => 214 | 171 => 203 | 205 => 215 | 321 => 220 | 322 => 221 | 243 => 206 | 246 => 212 | 283 => 216 | 284 => 217 | 285 => 218 | 286 => 219 | 129 => 223 | 317 => 222 | 318 => 224 | 319 => 225 | 320 => 226 | 337 => 227 | 338 => 228 | n => n, fun | 9 => 9 | 3 => 3 | 75 => 307 | 76 => 308 | 4 => 4 | 5 => 5 | 167 => 311 | 37 => 312 | 0 => 0 | 85 => 313 | 2 => 2 | 168 => 315 | 53 => 302 | 175 => 319 | 46 => 286 | 210 => 323 | 127 => 331 | 145 => 334 | 143 => 332 | 21 => 21 | 171 => 325 | 173 => 328 | 212 => 336 | 51 => 337 | 20 => 20 | 213 => 338 | 232 => 341 | 233 => 342 | 80 => 343 | n => n, fun | 15 => 0 | 16 => 1 | 17 => 2 | 18 => 3 | 19 => 4 | n => n⟩
theorem Tryz.laysC172 : Go.Proofs.LaysC.n172 Tryz.prog Tryz.laysC172_ren := {
  mixed := by kernel_rfl
  f129 := Tryz.func223.trans (congrArg some (by kernel_rfl))
  f171 := Tryz.func203.trans (congrArg some (by kernel_rfl))
  f172 := Tryz.func202.trans (congrArg some (by kernel_rfl))
  f205 := Tryz.func215.trans (congrArg some (by kernel_rfl))
  f243 := Tryz.func206.trans (congrArg some (by kernel_rfl))
  f244 := Tryz.func204.trans (congrArg some (by kernel_rfl))
  f245 := Tryz.func205.trans (congrArg some (by kernel_rfl))
  f246 := Tryz.func212.trans (congrArg some (by kernel_rfl))
  f247 := Tryz.func207.trans (congrArg some (by kernel_rfl))
  f279 := Tryz.func208.trans (congrArg some (by kernel_rfl))
  f280 := Tryz.func209.trans (congrArg some (by kernel_rfl))
  f281 := Tryz.func210.trans (congrArg some (by kernel_rfl))
  f282 := Tryz.func211.trans (congrArg some (by kernel_rfl))
  f283 := Tryz.func216.trans (congrArg some (by kernel_rfl))
  f284 := Tryz.func217.trans (congrArg some (by kernel_rfl))
  f285 := Tryz.func218.trans (congrArg some (by kernel_rfl))
  f286 := Tryz.func219.trans (congrArg some (by kernel_rfl))
  f287 := Tryz.func213.trans (congrArg some (by kernel_rfl))
  f316 := Tryz.func214.trans (congrArg some (by kernel_rfl))
  f317 := Tryz.func222.trans (congrArg some (by kernel_rfl))
  f318 := Tryz.func224.trans (congrArg some (by kernel_rfl))
  f319 := Tryz.func225.trans (congrArg some (by kernel_rfl))
  f320 := Tryz.func226.trans (congrArg some (by kernel_rfl))
  f321 := Tryz.func220.trans (congrArg some (by kernel_rfl))
  f322 := Tryz.func221.trans (congrArg some (by kernel_rfl))
  f337 := Tryz.func227.trans (congrArg some (by kernel_rfl))
  f338 := Tryz.func228.trans (congrArg some (by kernel_rfl))
  t0 := Tryz.underlying0
  a0 := Tryz.isAgg0
  z0 := Tryz.sizeOf0
  v0 := Tryz.zeroValue0
  t2 := Tryz.underlying2
  a2 := Tryz.isAgg2
  z2 := Tryz.sizeOf2
  v2 := Tryz.zeroValue2
  t3 := Tryz.underlying3
  a3 := Tryz.isAgg3
  z3 := Tryz.sizeOf3
  v3 := Tryz.zeroValue3
  t4 := Tryz.underlying4
  a4 := Tryz.isAgg4
  z4 := Tryz.sizeOf4
  v4 := Tryz.zeroValue4
  t5 := Tryz.underlying5
  a5 := Tryz.isAgg5
  z5 := Tryz.sizeOf5
  v5 := Tryz.zeroValue5
  t9 := Tryz.underlying9
  a9 := Tryz.isAgg9
  z9 := Tryz.sizeOf9
  v9 := Tryz.zeroValue9
  t20 := Tryz.underlying20
  a20 := Tryz.isAgg20
  z20 := Tryz.sizeOf20
  v20 := Tryz.zeroValue20
  t21 := Tryz.underlying21
  a21 := Tryz.isAgg21
  z21 := Tryz.sizeOf21
  v21 := Tryz.zeroValue21
  t37 := Tryz.underlying312
  a37 := Tryz.isAgg312
  z37 := Tryz.sizeOf312
  v37 := Tryz.zeroValue312
  t46 := Tryz.underlying286
  a46 := Tryz.isAgg286
  z46 := Tryz.sizeOf286
  v46 := Tryz.zeroValue286
  t51 := Tryz.underlying337
  a51 := Tryz.isAgg337
  z51 := Tryz.sizeOf337
  v51 := Tryz.zeroValue337
  t53 := Tryz.underlying302
  a53 := Tryz.isAgg302
  z53 := Tryz.sizeOf302
  v53 := Tryz.zeroValue302
  t75 := Tryz.underlying307
  a75 := Tryz.isAgg307
  z75 := Tryz.sizeOf307
  v75 := Tryz.zeroValue307
  t76 := Tryz.underlying308
  a76 := Tryz.isAgg308
  z76 := Tryz.sizeOf308
  v76 := Tryz.zeroValue308
  t85 := Tryz.underlying313
  a85 := Tryz.isAgg313
  z85 := Tryz.sizeOf313
  v85 := Tryz.zeroValue313
  t127 := Tryz.underlying331
  a127 := Tryz.isAgg331
  z127 := Tryz.sizeOf331
  v127 := Tryz.zeroValue331
  t143 := Tryz.underlying332
  a143 := Tryz.isAgg332
  z143 := Tryz.sizeOf332
  v143 := Tryz.zeroValue332
  t145 := Tryz.underlying334
  a145 := Tryz.isAgg334
  z145 := Tryz.sizeOf334
  v145 := Tryz.zeroValue334
  t167 := Tryz.underlying311
  a167 := Tryz.isAgg311
  z167 := Tryz.sizeOf311
  v167 := Tryz.zeroValue311
  t168 := Tryz.underlying315
  a168 := Tryz.isAgg315
  z168 := Tryz.sizeOf315
  v168 := Tryz.zeroValue315
  t171 := Tryz.underlying325
  a171 := Tryz.isAgg325
  z171 := Tryz.sizeOf325
  v171 := Tryz.zeroValue325
  t173 := Tryz.underlying328
  a173 := Tryz.isAgg328
  z173 := Tryz.sizeOf328
  v173 := Tryz.zeroValue328
  t175 := Tryz.underlying319
  a175 := Tryz.isAgg319
  z175 := Tryz.sizeOf319
  v175 := Tryz.zeroValue319
  t210 := Tryz.underlying323
  a210 := Tryz.isAgg323
  z210 := Tryz.sizeOf323
  v210 := Tryz.zeroValue323
  t212 := Tryz.underlying336
  a212 := Tryz.isAgg336
  z212 := Tryz.sizeOf336
  v212 := Tryz.zeroValue336
  t213 := Tryz.underlying338
  a213 := Tryz.isAgg338
  z213 := Tryz.sizeOf338
  t232 := Tryz.underlying341
  a232 := Tryz.isAgg341
  z232 := Tryz.sizeOf341
  v232 := Tryz.zeroValue341
  t233 := Tryz.underlying342
  a233 := Tryz.isAgg342
  z233 := Tryz.sizeOf342
  v233 := Tryz.zeroValue342
  g15 := by kernel_rfl
  g16 := by kernel_rfl
  g17 := by kernel_rfl
  g18 := by kernel_rfl
  g19 := by kernel_rfl
  t80 := Tryz.underlying343
  a80 := Tryz.isAgg343
  z80 := Tryz.sizeOf343
  v80 := Tryz.zeroValue343
  i0 := by kernel_rfl
  i2 := by kernel_rfl
  i3 := by kernel_rfl
  i4 := by kernel_rfl
  i5 := by kernel_rfl
  i9 := by kernel_rfl
  i20 := by kernel_rfl
  i21 := by kernel_rfl
  i37 := by kernel_rfl
  i46 := by kernel_rfl
  i51 := by kernel_rfl
  i53 := by kernel_rfl
  i75 := by kernel_rfl
  i76 := by kernel_rfl
  i80 := by kernel_rfl
  i85 := by kernel_rfl
  i127 := by kernel_rfl
  i143 := by kernel_rfl
  i145 := by kernel_rfl
  i167 := by kernel_rfl
  i168 := by kernel_rfl
  i171 := by kernel_rfl
  i173 := by kernel_rfl
  i175 := by kernel_rfl
  i210 := by kernel_rfl
  i212 := by kernel_rfl
  i232 := by kernel_rfl
  i233 := by kernel_rfl
  m15 := by kernel_rfl
  m16 := by kernel_rfl
  m17 := by kernel_rfl
  m18 := by kernel_rfl
  m19 := by kernel_rfl
  c0 := by kernel_rfl
  c2 := by kernel_rfl
  c3 := by kernel_rfl
  c4 := by kernel_rfl
  c5 := by kernel_rfl
  c9 := by kernel_rfl
  c20 := by kernel_rfl
  c21 := by kernel_rfl
  c37 := by kernel_rfl
  c46 := by kernel_rfl
  c51 := by kernel_rfl
  c53 := by kernel_rfl
  c75 := by kernel_rfl
  c76 := by kernel_rfl
  c80 := by kernel_rfl
  c85 := by kernel_rfl
  c127 := by kernel_rfl
  c143 := by kernel_rfl
  c145 := by kernel_rfl
  c167 := by kernel_rfl
  c168 := by kernel_rfl
  c171 := by kernel_rfl
  c173 := by kernel_rfl
  c175 := by kernel_rfl
  c210 := by kernel_rfl
  c212 := by kernel_rfl
  c213 := by kernel_rfl
  c232 := by kernel_rfl
  c233 := by kernel_rfl }
def Tryz.laysSlE041_f68_ren : Go.Shelf.Ren := ⟨fun | 41 => 68 | n => n, fun | 22 => 22 | 23 => 3 | 4 => 4 | n => n, fun | n => n⟩
theorem Tryz.laysSlE041_f68 : Go.Proofs.SlLaysE0.n41 Tryz.prog Tryz.laysSlE041_f68_ren := {
  mixed := by kernel_rfl
  f41 := ⟨Tryz.f68.name, by decide, Tryz.func68.trans (congrArg some (by kernel_rfl))⟩
  t4 := Tryz.underlying4
  a4 := Tryz.isAgg4
  z4 := Tryz.sizeOf4
  v4 := Tryz.zeroValue4
  t22 := Tryz.underlying22
  a22 := Tryz.isAgg22
  z22 := Tryz.sizeOf22
  v22 := Tryz.zeroValue22 }
end Go.Proofs
