/-
  DERIVED: THE SHELF's CONTRACTS AT THIS DUMP, IN PLAIN WORDS (tools/lay-plain.mjs out of 'TryzShelfAll.lean', which tools/lay-shelf.mjs wrote): THE SAME DECLARATIONS UNDER THE SAME NAMES: 'import', 'namespace', 'open', 'def', 'theorem' AND NOTHING ELSE: no command of the shelf's: FOR A HAND-IN. Each laying: the table of numbers ('.._ren') and one theorem, a field a fact of the dump's own or the kernel's comparison; each contract: ONE APPLICATION.
-/
import Derived.Shelf.SlIterI.Nil
import Derived.Shelf.SlIterI.Sorted
import Derived.Ground.GgzProg
import Derived.Shelf.Small.Bits
import Derived.Shelf.Strconv.Itoa0
import Derived.Shelf.Strconv.Itoa1
import Derived.Shelf.LaysM
import Derived.Shelf.Strconv.Itoa2
import Derived.Shelf.Strconv.Itoa3
import Derived.Shelf.Strconv.Itoa4
import Derived.Shelf.Strconv.ParseIntEmpty
import Derived.Shelf.Strconv.Clone
import Derived.Shelf.Strconv.SyntaxError
import Derived.Shelf.LaysC
import Derived.Shelf.Strconv.ToError
import Derived.Shelf.Strconv.Lower
import Derived.Shelf.Strconv.ParseUint10
import Derived.Shelf.Strconv.ParseUint10Empty
import Derived.Shelf.Strconv.ParseUint10Any
import Derived.Shelf.Strconv.ParseInt10
import Derived.Shelf.Strconv.RangeError
import Derived.Shelf.Strconv.ToErrorRange
import Derived.Shelf.Strconv.ParseUintEmpty
import Derived.Shelf.Strconv.ParseUint10b64
import Derived.Shelf.Strconv.ParseUint10b32
import Derived.Shelf.Strconv.ParseUint10b16
import Derived.Shelf.Strconv.ParseUint10b8
import Derived.Shelf.Strconv.ParseUint10At
import Derived.Shelf.Strconv.ParseInt10At64
import Derived.Shelf.Strconv.ParseInt10At32
import Derived.Shelf.Strconv.ParseInt10At16
import Derived.Shelf.Strconv.ParseInt10At8
import Derived.Shelf.Strconv.ParseInt10All
import Derived.Shelf.Strconv.ParseIntPublic10
import Derived.Shelf.Strconv.ErrVarParseInt
import Derived.Shelf.Strings.Search1
import Derived.Shelf.Strings.Search2
import Derived.Shelf.Strings.Cut
import Derived.Shelf.Strings.Shaped
import Derived.Shelf.Sort.Plain
import Derived.Shelf.Slices.In.SortNone
import Derived.Shelf.Slices.Turned
import Derived.Ground.Names2Prog
import Derived.Shelf.Slices.Clone
import Derived.Ground.SlgfProg
import Derived.Shelf.SlicesE.IndexFunc
import Derived.Shelf.SlicesE.DeleteFunc
import Derived.Test.YtfkamoiamebngaaGreatDoorProg
import Derived.Test.YtfkamoiamebngaaGreatDoorM04
import Derived.Test.YtfkamoiamebngaaGreatDoorM06
import Derived.BigRegion
import Derived.Carry
namespace Go.Proofs
open Go.Shelf
def Tryz.lays171_ren : Go.Shelf.Ren := ⟨fun | 171 => 91 | 243 => 126 | 246 => 154 | 283 => 172 | 284 => 173 | 285 => 174 | 286 => 175 | 129 => 108 | 317 => 184 | 318 => 185 | 319 => 186 | 320 => 187 | 337 => 196 | 338 => 197 | n => n, fun | 3 => 3 | 9 => 9 | 2 => 2 | 4 => 4 | 171 => 241 | 0 => 0 | 53 => 183 | 37 => 29 | 5 => 5 | 173 => 243 | 212 => 256 | 51 => 181 | 20 => 20 | 213 => 257 | 46 => 30 | 232 => 270 | 233 => 271 | n => n, fun | 17 => 0 | 18 => 4 | 19 => 5 | n => n⟩
theorem Tryz.lays171 : Go.Proofs.Lays.n171 Tryz.prog Tryz.lays171_ren := {
  mixed := by kernel_rfl
  f129 := Tryz.func108.trans (congrArg some (by kernel_rfl))
  f171 := Tryz.func91.trans (congrArg some (by kernel_rfl))
  f243 := Tryz.func126.trans (congrArg some (by kernel_rfl))
  f246 := Tryz.func154.trans (congrArg some (by kernel_rfl))
  f283 := Tryz.func172.trans (congrArg some (by kernel_rfl))
  f284 := Tryz.func173.trans (congrArg some (by kernel_rfl))
  f285 := Tryz.func174.trans (congrArg some (by kernel_rfl))
  f286 := Tryz.func175.trans (congrArg some (by kernel_rfl))
  f317 := Tryz.func184.trans (congrArg some (by kernel_rfl))
  f318 := Tryz.func185.trans (congrArg some (by kernel_rfl))
  f319 := Tryz.func186.trans (congrArg some (by kernel_rfl))
  f320 := Tryz.func187.trans (congrArg some (by kernel_rfl))
  f337 := Tryz.func196.trans (congrArg some (by kernel_rfl))
  f338 := Tryz.func197.trans (congrArg some (by kernel_rfl))
  t0 := Tryz.underlying0
  a0 := Tryz.isAgg0
  z0 := Tryz.sizeOf0
  v0 := Tryz.zeroValue0
  t2 := Tryz.underlying2
  a2 := Tryz.isAgg2
  z2 := Tryz.sizeOf2
  v2 := Tryz.zeroValue2
  t3 := Tryz.underlying3
  a3 := Tryz.isAgg3
  z3 := Tryz.sizeOf3
  v3 := Tryz.zeroValue3
  t4 := Tryz.underlying4
  a4 := Tryz.isAgg4
  z4 := Tryz.sizeOf4
  v4 := Tryz.zeroValue4
  t5 := Tryz.underlying5
  a5 := Tryz.isAgg5
  z5 := Tryz.sizeOf5
  v5 := Tryz.zeroValue5
  t9 := Tryz.underlying9
  a9 := Tryz.isAgg9
  z9 := Tryz.sizeOf9
  v9 := Tryz.zeroValue9
  t20 := Tryz.underlying20
  a20 := Tryz.isAgg20
  z20 := Tryz.sizeOf20
  v20 := Tryz.zeroValue20
  t37 := Tryz.underlying29
  a37 := Tryz.isAgg29
  z37 := Tryz.sizeOf29
  v37 := Tryz.zeroValue29
  t46 := Tryz.underlying30
  a46 := Tryz.isAgg30
  z46 := Tryz.sizeOf30
  v46 := Tryz.zeroValue30
  t51 := Tryz.underlying181
  a51 := Tryz.isAgg181
  z51 := Tryz.sizeOf181
  v51 := Tryz.zeroValue181
  t53 := Tryz.underlying183
  a53 := Tryz.isAgg183
  z53 := Tryz.sizeOf183
  v53 := Tryz.zeroValue183
  t171 := Tryz.underlying241
  a171 := Tryz.isAgg241
  z171 := Tryz.sizeOf241
  v171 := Tryz.zeroValue241
  t173 := Tryz.underlying243
  a173 := Tryz.isAgg243
  z173 := Tryz.sizeOf243
  v173 := Tryz.zeroValue243
  t212 := Tryz.underlying256
  a212 := Tryz.isAgg256
  z212 := Tryz.sizeOf256
  v212 := Tryz.zeroValue256
  t213 := Tryz.underlying257
  a213 := Tryz.isAgg257
  z213 := Tryz.sizeOf257
  t232 := Tryz.underlying270
  a232 := Tryz.isAgg270
  z232 := Tryz.sizeOf270
  v232 := Tryz.zeroValue270
  t233 := Tryz.underlying271
  a233 := Tryz.isAgg271
  z233 := Tryz.sizeOf271
  v233 := Tryz.zeroValue271
  g17 := by kernel_rfl
  g18 := by kernel_rfl
  g19 := by kernel_rfl }
open Go.RowKit Go.Sort Go.Lib in
/-- THE ROAD WITHOUT THE TABLE: 0 <= i < 100: NO PREMISE ON THE WORLD, AND THE WORLD IS AS IT WAS: a row that keeps its argument in that range need list no table ('laid = []'). (LAID: no walk: one application.) -/
theorem Tryz.strconv_Itoa_small (i : Nat) (hi : i < 100) (w : World) :
    Calls Tryz.prog 91 #[.int .i64 i] w fun e w' => e = .returned (.string ⟨(Lib.decDigits i).toArray⟩) ∧ w' = w := Any.strconv_Itoa_small Tryz.lays171 i hi w
def Tryz.laysM173_ren : Go.Shelf.Ren := ⟨fun | 173 => 162 | 246 => 154 | 283 => 172 | 284 => 173 | 285 => 174 | 286 => 175 | 129 => 108 | 317 => 184 | 318 => 185 | 319 => 186 | 320 => 187 | 337 => 196 | 338 => 197 | n => n, fun | 2 => 2 | 3 => 3 | 9 => 9 | 4 => 4 | 171 => 241 | 0 => 0 | 53 => 183 | 37 => 29 | 5 => 5 | 173 => 243 | 212 => 256 | 51 => 181 | 20 => 20 | 213 => 257 | 46 => 30 | 232 => 270 | 233 => 271 | n => n, fun | 17 => 0 | 18 => 4 | 19 => 5 | n => n⟩
theorem Tryz.laysM173 : Go.Proofs.LaysM.n173 Tryz.prog Tryz.laysM173_ren := {
  mixed := by kernel_rfl
  f129 := Tryz.func108.trans (congrArg some (by kernel_rfl))
  f173 := Tryz.func162.trans (congrArg some (by kernel_rfl))
  f246 := Tryz.func154.trans (congrArg some (by kernel_rfl))
  f283 := Tryz.func172.trans (congrArg some (by kernel_rfl))
  f284 := Tryz.func173.trans (congrArg some (by kernel_rfl))
  f285 := Tryz.func174.trans (congrArg some (by kernel_rfl))
  f286 := Tryz.func175.trans (congrArg some (by kernel_rfl))
  f317 := Tryz.func184.trans (congrArg some (by kernel_rfl))
  f318 := Tryz.func185.trans (congrArg some (by kernel_rfl))
  f319 := Tryz.func186.trans (congrArg some (by kernel_rfl))
  f320 := Tryz.func187.trans (congrArg some (by kernel_rfl))
  f337 := Tryz.func196.trans (congrArg some (by kernel_rfl))
  f338 := Tryz.func197.trans (congrArg some (by kernel_rfl))
  t0 := Tryz.underlying0
  a0 := Tryz.isAgg0
  z0 := Tryz.sizeOf0
  v0 := Tryz.zeroValue0
  t2 := Tryz.underlying2
  a2 := Tryz.isAgg2
  z2 := Tryz.sizeOf2
  v2 := Tryz.zeroValue2
  t3 := Tryz.underlying3
  a3 := Tryz.isAgg3
  z3 := Tryz.sizeOf3
  v3 := Tryz.zeroValue3
  t4 := Tryz.underlying4
  a4 := Tryz.isAgg4
  z4 := Tryz.sizeOf4
  v4 := Tryz.zeroValue4
  t5 := Tryz.underlying5
  a5 := Tryz.isAgg5
  z5 := Tryz.sizeOf5
  v5 := Tryz.zeroValue5
  t9 := Tryz.underlying9
  a9 := Tryz.isAgg9
  z9 := Tryz.sizeOf9
  v9 := Tryz.zeroValue9
  t20 := Tryz.underlying20
  a20 := Tryz.isAgg20
  z20 := Tryz.sizeOf20
  v20 := Tryz.zeroValue20
  t37 := Tryz.underlying29
  a37 := Tryz.isAgg29
  z37 := Tryz.sizeOf29
  v37 := Tryz.zeroValue29
  t46 := Tryz.underlying30
  a46 := Tryz.isAgg30
  z46 := Tryz.sizeOf30
  v46 := Tryz.zeroValue30
  t51 := Tryz.underlying181
  a51 := Tryz.isAgg181
  z51 := Tryz.sizeOf181
  v51 := Tryz.zeroValue181
  t53 := Tryz.underlying183
  a53 := Tryz.isAgg183
  z53 := Tryz.sizeOf183
  v53 := Tryz.zeroValue183
  t171 := Tryz.underlying241
  a171 := Tryz.isAgg241
  z171 := Tryz.sizeOf241
  v171 := Tryz.zeroValue241
  t173 := Tryz.underlying243
  a173 := Tryz.isAgg243
  z173 := Tryz.sizeOf243
  v173 := Tryz.zeroValue243
  t212 := Tryz.underlying256
  a212 := Tryz.isAgg256
  z212 := Tryz.sizeOf256
  v212 := Tryz.zeroValue256
  t213 := Tryz.underlying257
  a213 := Tryz.isAgg257
  z213 := Tryz.sizeOf257
  t232 := Tryz.underlying270
  a232 := Tryz.isAgg270
  z232 := Tryz.sizeOf270
  v232 := Tryz.zeroValue270
  t233 := Tryz.underlying271
  a233 := Tryz.isAgg271
  z233 := Tryz.sizeOf271
  v233 := Tryz.zeroValue271
  g17 := by kernel_rfl
  g18 := by kernel_rfl
  g19 := by kernel_rfl
  i0 := by kernel_rfl
  i2 := by kernel_rfl
  i3 := by kernel_rfl
  i4 := by kernel_rfl
  i5 := by kernel_rfl
  i9 := by kernel_rfl
  i20 := by kernel_rfl
  i37 := by kernel_rfl
  i46 := by kernel_rfl
  i51 := by kernel_rfl
  i53 := by kernel_rfl
  i171 := by kernel_rfl
  i173 := by kernel_rfl
  i212 := by kernel_rfl
  i232 := by kernel_rfl
  i233 := by kernel_rfl
  m17 := by kernel_rfl
  m18 := by kernel_rfl
  m19 := by kernel_rfl }
open Go.RowKit Go.Sort Go.Lib in
/-- strconv.FormatInt: "FormatInt returns the string representation of i in the given base": AT BASE 10: i's decimal numeral, for every int64. (LAID: no walk: one application.) -/
theorem Tryz.strconv_FormatInt_10 (n : Int) (h0 : -9223372036854775808 ≤ n) (h1 : n ≤ 9223372036854775807) (w : World) (htab : Lib.TabIs Tryz.prog w "internal/strconv.uint64pow10" .u64 Lib.pow10Tab) :
    Calls Tryz.prog 162 #[.int .i64 n, .int .i64 10] w fun e w' => e = .returned (.string ⟨(Lib.itoa n).toArray⟩) ∧ ∃ k os, w' = grow (w.drewN k) os := Any.strconv_FormatInt_10 Tryz.laysM173 n h0 h1 w htab
def Tryz.laysC174_ren : Go.Shelf.Ren := ⟨fun | 174 => 141 | 247 => 159 | 245 => 160 | 287 => 177 | 279 => 178 | 280 => 179 | 281 => 180 | 282 => 181 | 321 => 192 | 322 => 193 | 316 => 194 | 171 => 91 | 205 => 195 | 243 => 126 | 246 => 154 | 283 => 172 | 284 => 173 | 285 => 174 | 286 => 175 | 129 => 108 | 317 => 184 | 318 => 185 | 319 => 186 | 320 => 187 | 337 => 196 | 338 => 197 | n => n, fun | 9 => 9 | 3 => 3 | 2 => 2 | 75 => 221 | 85 => 222 | 4 => 4 | 167 => 246 | 5 => 5 | 53 => 183 | 175 => 247 | 46 => 30 | 168 => 249 | 37 => 29 | 0 => 0 | 210 => 262 | 21 => 21 | 127 => 266 | 145 => 269 | 143 => 267 | 171 => 241 | 173 => 243 | 212 => 256 | 51 => 181 | 20 => 20 | 213 => 257 | 232 => 270 | 233 => 271 | 80 => 224 | n => n, fun | 15 => 2 | 16 => 3 | 17 => 0 | 18 => 4 | 19 => 5 | n => n⟩
theorem Tryz.laysC174 : Go.Proofs.LaysC.n174 Tryz.prog Tryz.laysC174_ren := {
  mixed := by kernel_rfl
  f129 := Tryz.func108.trans (congrArg some (by kernel_rfl))
  f171 := Tryz.func91.trans (congrArg some (by kernel_rfl))
  f174 := Tryz.func141.trans (congrArg some (by kernel_rfl))
  f205 := Tryz.func195.trans (congrArg some (by kernel_rfl))
  f243 := Tryz.func126.trans (congrArg some (by kernel_rfl))
  f245 := Tryz.func160.trans (congrArg some (by kernel_rfl))
  f246 := Tryz.func154.trans (congrArg some (by kernel_rfl))
  f247 := Tryz.func159.trans (congrArg some (by kernel_rfl))
  f279 := Tryz.func178.trans (congrArg some (by kernel_rfl))
  f280 := Tryz.func179.trans (congrArg some (by kernel_rfl))
  f281 := Tryz.func180.trans (congrArg some (by kernel_rfl))
  f282 := Tryz.func181.trans (congrArg some (by kernel_rfl))
  f283 := Tryz.func172.trans (congrArg some (by kernel_rfl))
  f284 := Tryz.func173.trans (congrArg some (by kernel_rfl))
  f285 := Tryz.func174.trans (congrArg some (by kernel_rfl))
  f286 := Tryz.func175.trans (congrArg some (by kernel_rfl))
  f287 := Tryz.func177.trans (congrArg some (by kernel_rfl))
  f316 := Tryz.func194.trans (congrArg some (by kernel_rfl))
  f317 := Tryz.func184.trans (congrArg some (by kernel_rfl))
  f318 := Tryz.func185.trans (congrArg some (by kernel_rfl))
  f319 := Tryz.func186.trans (congrArg some (by kernel_rfl))
  f320 := Tryz.func187.trans (congrArg some (by kernel_rfl))
  f321 := Tryz.func192.trans (congrArg some (by kernel_rfl))
  f322 := Tryz.func193.trans (congrArg some (by kernel_rfl))
  f337 := Tryz.func196.trans (congrArg some (by kernel_rfl))
  f338 := Tryz.func197.trans (congrArg some (by kernel_rfl))
  t0 := Tryz.underlying0
  a0 := Tryz.isAgg0
  z0 := Tryz.sizeOf0
  v0 := Tryz.zeroValue0
  t2 := Tryz.underlying2
  a2 := Tryz.isAgg2
  z2 := Tryz.sizeOf2
  v2 := Tryz.zeroValue2
  t3 := Tryz.underlying3
  a3 := Tryz.isAgg3
  z3 := Tryz.sizeOf3
  v3 := Tryz.zeroValue3
  t4 := Tryz.underlying4
  a4 := Tryz.isAgg4
  z4 := Tryz.sizeOf4
  v4 := Tryz.zeroValue4
  t5 := Tryz.underlying5
  a5 := Tryz.isAgg5
  z5 := Tryz.sizeOf5
  v5 := Tryz.zeroValue5
  t9 := Tryz.underlying9
  a9 := Tryz.isAgg9
  z9 := Tryz.sizeOf9
  v9 := Tryz.zeroValue9
  t20 := Tryz.underlying20
  a20 := Tryz.isAgg20
  z20 := Tryz.sizeOf20
  v20 := Tryz.zeroValue20
  t21 := Tryz.underlying21
  a21 := Tryz.isAgg21
  z21 := Tryz.sizeOf21
  v21 := Tryz.zeroValue21
  t37 := Tryz.underlying29
  a37 := Tryz.isAgg29
  z37 := Tryz.sizeOf29
  v37 := Tryz.zeroValue29
  t46 := Tryz.underlying30
  a46 := Tryz.isAgg30
  z46 := Tryz.sizeOf30
  v46 := Tryz.zeroValue30
  t51 := Tryz.underlying181
  a51 := Tryz.isAgg181
  z51 := Tryz.sizeOf181
  v51 := Tryz.zeroValue181
  t53 := Tryz.underlying183
  a53 := Tryz.isAgg183
  z53 := Tryz.sizeOf183
  v53 := Tryz.zeroValue183
  t75 := Tryz.underlying221
  a75 := Tryz.isAgg221
  z75 := Tryz.sizeOf221
  v75 := Tryz.zeroValue221
  t85 := Tryz.underlying222
  a85 := Tryz.isAgg222
  z85 := Tryz.sizeOf222
  v85 := Tryz.zeroValue222
  t127 := Tryz.underlying266
  a127 := Tryz.isAgg266
  z127 := Tryz.sizeOf266
  v127 := Tryz.zeroValue266
  t143 := Tryz.underlying267
  a143 := Tryz.isAgg267
  z143 := Tryz.sizeOf267
  v143 := Tryz.zeroValue267
  t145 := Tryz.underlying269
  a145 := Tryz.isAgg269
  z145 := Tryz.sizeOf269
  v145 := Tryz.zeroValue269
  t167 := Tryz.underlying246
  a167 := Tryz.isAgg246
  z167 := Tryz.sizeOf246
  v167 := Tryz.zeroValue246
  t168 := Tryz.underlying249
  a168 := Tryz.isAgg249
  z168 := Tryz.sizeOf249
  v168 := Tryz.zeroValue249
  t171 := Tryz.underlying241
  a171 := Tryz.isAgg241
  z171 := Tryz.sizeOf241
  v171 := Tryz.zeroValue241
  t173 := Tryz.underlying243
  a173 := Tryz.isAgg243
  z173 := Tryz.sizeOf243
  v173 := Tryz.zeroValue243
  t175 := Tryz.underlying247
  a175 := Tryz.isAgg247
  z175 := Tryz.sizeOf247
  v175 := Tryz.zeroValue247
  t210 := Tryz.underlying262
  a210 := Tryz.isAgg262
  z210 := Tryz.sizeOf262
  v210 := Tryz.zeroValue262
  t212 := Tryz.underlying256
  a212 := Tryz.isAgg256
  z212 := Tryz.sizeOf256
  v212 := Tryz.zeroValue256
  t213 := Tryz.underlying257
  a213 := Tryz.isAgg257
  z213 := Tryz.sizeOf257
  t232 := Tryz.underlying270
  a232 := Tryz.isAgg270
  z232 := Tryz.sizeOf270
  v232 := Tryz.zeroValue270
  t233 := Tryz.underlying271
  a233 := Tryz.isAgg271
  z233 := Tryz.sizeOf271
  v233 := Tryz.zeroValue271
  g15 := by kernel_rfl
  g16 := by kernel_rfl
  g17 := by kernel_rfl
  g18 := by kernel_rfl
  g19 := by kernel_rfl
  t80 := Tryz.underlying224
  a80 := Tryz.isAgg224
  z80 := Tryz.sizeOf224
  v80 := Tryz.zeroValue224
  i0 := by kernel_rfl
  i2 := by kernel_rfl
  i3 := by kernel_rfl
  i4 := by kernel_rfl
  i5 := by kernel_rfl
  i9 := by kernel_rfl
  i20 := by kernel_rfl
  i21 := by kernel_rfl
  i37 := by kernel_rfl
  i46 := by kernel_rfl
  i51 := by kernel_rfl
  i53 := by kernel_rfl
  i75 := by kernel_rfl
  i80 := by kernel_rfl
  i85 := by kernel_rfl
  i127 := by kernel_rfl
  i143 := by kernel_rfl
  i145 := by kernel_rfl
  i167 := by kernel_rfl
  i168 := by kernel_rfl
  i171 := by kernel_rfl
  i173 := by kernel_rfl
  i175 := by kernel_rfl
  i210 := by kernel_rfl
  i212 := by kernel_rfl
  i232 := by kernel_rfl
  i233 := by kernel_rfl
  m15 := by kernel_rfl
  m16 := by kernel_rfl
  m17 := by kernel_rfl
  m18 := by kernel_rfl
  m19 := by kernel_rfl
  c0 := by kernel_rfl
  c2 := by kernel_rfl
  c3 := by kernel_rfl
  c4 := by kernel_rfl
  c5 := by kernel_rfl
  c9 := by kernel_rfl
  c20 := by kernel_rfl
  c21 := by kernel_rfl
  c37 := by kernel_rfl
  c46 := by kernel_rfl
  c51 := by kernel_rfl
  c53 := by kernel_rfl
  c75 := by kernel_rfl
  c80 := by kernel_rfl
  c85 := by kernel_rfl
  c127 := by kernel_rfl
  c143 := by kernel_rfl
  c145 := by kernel_rfl
  c167 := by kernel_rfl
  c168 := by kernel_rfl
  c171 := by kernel_rfl
  c173 := by kernel_rfl
  c175 := by kernel_rfl
  c210 := by kernel_rfl
  c212 := by kernel_rfl
  c213 := by kernel_rfl
  c232 := by kernel_rfl
  c233 := by kernel_rfl }
open Go.RowKit in
/-- strconv.ParseInt(s, 10, 64), AT EVERY STRING THAT SPELLS AN int64 ('Lib.parseIntB 64 s.data.toList = .ok v'): v, AND NO ERROR. (LAID: no walk: one application.) -/
theorem Tryz.strconv_ParseInt_10_at64_ok (s : ByteArray) (hmax : s.size ≤ 9223372036854775806) (v : Int) (h : Lib.parseIntB 64 s.data.toList = .ok v) (w : World) :
    Calls Tryz.prog 141 #[.string s, .int .i64 10, .int .i64 64] w fun e w' => e = .returned (.tuple #[.int .i64 v, .nilIface]) ∧ (w' = w ∨ ∃ t, w' = Lib.bytesWorld w 5 t) := Any.strconv_ParseInt_10_at64_ok Tryz.laysC174 s hmax v h w
open Go.RowKit in
theorem Tryz.strconv_ParseInt_10_at64_syntax_var (s : ByteArray) (hlim : s.size ≤ 281474976710656) (hv : ∀ v, Lib.parseIntB 64 s.data.toList ≠ .ok v) (hr : Lib.parseIntB 64 s.data.toList ≠ .range) (tp : TypeId) (p : Value) (w : World) (hvar : w.var? Tryz.prog "strconv.ErrSyntax" = some #[.iface tp p]) :
    Calls Tryz.prog 141 #[.string s, .int .i64 10, .int .i64 64] w fun e w' => ∃ N, e = .returned (.tuple #[.int .i64 (0), .iface 249 (.pointer (some ⟨N, 0, none⟩))]) ∧ w.heap.size ≤ N ∧ w'.heap[N]? = some (.cells #[.string ⟨#[80, 97, 114, 115, 101, 73, 110, 116]⟩, .string s, .iface tp p] 262 (0, 0)) ∧ Below w.heap.size w w' := by
  rcases h : Lib.parseIntB 64 s.data.toList with v | _ | _
  · exact absurd h (hv v)
  · exact Any.strconv_ParseInt_10_at64_syntax_var Tryz.laysC174 s hlim h tp p w hvar
  · exact absurd h hr
open Go.RowKit in
theorem Tryz.strconv_ParseInt_10_at64_range_var (s : ByteArray) (hlim : s.size ≤ 281474976710656) (h : Lib.parseIntB 64 s.data.toList = .range) (tp : TypeId) (p : Value) (w : World) (hvar : w.var? Tryz.prog "strconv.ErrRange" = some #[.iface tp p]) :
    Calls Tryz.prog 141 #[.string s, .int .i64 10, .int .i64 64] w fun e w' => ∃ N, e = .returned (.tuple #[.int .i64 (Lib.intSat 64 s.data.toList), .iface 249 (.pointer (some ⟨N, 0, none⟩))]) ∧ w.heap.size ≤ N ∧ w'.heap[N]? = some (.cells #[.string ⟨#[80, 97, 114, 115, 101, 73, 110, 116]⟩, .string s, .iface tp p] 262 (0, 0)) ∧ Below w.heap.size w w' := Any.strconv_ParseInt_10_at64_range_var Tryz.laysC174 s hlim h tp p w hvar
def Tryz.lays219_ren : Go.Shelf.Ren := ⟨fun | 219 => 176 | 217 => 188 | 225 => 189 | 224 => 190 | 267 => 191 | 266 => 198 | 314 => 199 | n => n, fun | 9 => 9 | 3 => 3 | 4 => 4 | 5 => 5 | 46 => 30 | 146 => 264 | 51 => 181 | n => n, fun | 1 => 1 | n => n⟩
theorem Tryz.lays219 : Go.Proofs.Lays.n219 Tryz.prog Tryz.lays219_ren := {
  mixed := by kernel_rfl
  f217 := Tryz.func188.trans (congrArg some (by kernel_rfl))
  f219 := Tryz.func176.trans (congrArg some (by kernel_rfl))
  f224 := Tryz.func190.trans (congrArg some (by kernel_rfl))
  f225 := Tryz.func189.trans (congrArg some (by kernel_rfl))
  f266 := Tryz.func198.trans (congrArg some (by kernel_rfl))
  f267 := Tryz.func191.trans (congrArg some (by kernel_rfl))
  f314 := Tryz.func199.trans (congrArg some (by kernel_rfl))
  t3 := Tryz.underlying3
  a3 := Tryz.isAgg3
  z3 := Tryz.sizeOf3
  v3 := Tryz.zeroValue3
  t4 := Tryz.underlying4
  a4 := Tryz.isAgg4
  z4 := Tryz.sizeOf4
  v4 := Tryz.zeroValue4
  t5 := Tryz.underlying5
  a5 := Tryz.isAgg5
  z5 := Tryz.sizeOf5
  v5 := Tryz.zeroValue5
  t9 := Tryz.underlying9
  a9 := Tryz.isAgg9
  z9 := Tryz.sizeOf9
  v9 := Tryz.zeroValue9
  t46 := Tryz.underlying30
  a46 := Tryz.isAgg30
  z46 := Tryz.sizeOf30
  v46 := Tryz.zeroValue30
  t51 := Tryz.underlying181
  a51 := Tryz.isAgg181
  z51 := Tryz.sizeOf181
  v51 := Tryz.zeroValue181
  t146 := Tryz.underlying264
  a146 := Tryz.isAgg264
  z146 := Tryz.sizeOf264
  v146 := Tryz.zeroValue264
  g1 := by kernel_rfl }
open Go.RowKit Go.Lib in
/-- internal/stringslite.Index (what strings.Index calls) AT A substr OF ONE BYTE c: IT RETURNS 'Lib.indexByte s c'; the world is as it was. (LAID: no walk: one application.) -/
theorem Tryz.stringslite_Index_one (s : ByteArray) (c : UInt8) (w : World) :
    Calls Tryz.prog 176 #[.string s, .string ⟨#[c]⟩] w fun e w' => e = .returned (.int .i64 (Lib.indexByte s.data.toList c)) ∧ w' = w := Any.stringslite_Index_one Tryz.lays219 s c w
def Tryz.lays189_ren : Go.Shelf.Ren := ⟨fun | 189 => 53 | 125 => 79 | 257 => 78 | 128 => 107 | 129 => 108 | 294 => 98 | 295 => 99 | 296 => 100 | 297 => 101 | 298 => 102 | 299 => 103 | 216 => 104 | 300 => 105 | 301 => 106 | 328 => 128 | 329 => 129 | 330 => 130 | 331 => 131 | 332 => 132 | 215 => 133 | 343 => 155 | n => n, fun | 28 => 24 | 3 => 3 | 46 => 30 | 0 => 0 | 51 => 181 | 53 => 183 | 4 => 4 | 183 => 174 | 182 => 173 | 131 => 178 | 5 => 5 | 9 => 9 | 218 => 203 | 222 => 97 | 228 => 231 | 229 => 232 | n => n, fun | n => n⟩
theorem Tryz.lays189 : Go.Proofs.Lays.n189 Tryz.prog Tryz.lays189_ren := {
  mixed := by kernel_rfl
  f125 := Tryz.func79.trans (congrArg some (by kernel_rfl))
  f128 := Tryz.func107.trans (congrArg some (by kernel_rfl))
  f129 := Tryz.func108.trans (congrArg some (by kernel_rfl))
  f189 := Tryz.func53.trans (congrArg some (by kernel_rfl))
  f215 := Tryz.func133.trans (congrArg some (by kernel_rfl))
  f216 := Tryz.func104.trans (congrArg some (by kernel_rfl))
  f257 := Tryz.func78.trans (congrArg some (by kernel_rfl))
  f294 := Tryz.func98.trans (congrArg some (by kernel_rfl))
  f295 := Tryz.func99.trans (congrArg some (by kernel_rfl))
  f296 := Tryz.func100.trans (congrArg some (by kernel_rfl))
  f297 := Tryz.func101.trans (congrArg some (by kernel_rfl))
  f298 := Tryz.func102.trans (congrArg some (by kernel_rfl))
  f299 := Tryz.func103.trans (congrArg some (by kernel_rfl))
  f300 := Tryz.func105.trans (congrArg some (by kernel_rfl))
  f301 := Tryz.func106.trans (congrArg some (by kernel_rfl))
  f328 := Tryz.func128.trans (congrArg some (by kernel_rfl))
  f329 := Tryz.func129.trans (congrArg some (by kernel_rfl))
  f330 := Tryz.func130.trans (congrArg some (by kernel_rfl))
  f331 := Tryz.func131.trans (congrArg some (by kernel_rfl))
  f332 := Tryz.func132.trans (congrArg some (by kernel_rfl))
  f343 := Tryz.func155.trans (congrArg some (by kernel_rfl))
  t0 := Tryz.underlying0
  a0 := Tryz.isAgg0
  z0 := Tryz.sizeOf0
  v0 := Tryz.zeroValue0
  t3 := Tryz.underlying3
  a3 := Tryz.isAgg3
  z3 := Tryz.sizeOf3
  v3 := Tryz.zeroValue3
  t4 := Tryz.underlying4
  a4 := Tryz.isAgg4
  z4 := Tryz.sizeOf4
  v4 := Tryz.zeroValue4
  t5 := Tryz.underlying5
  a5 := Tryz.isAgg5
  z5 := Tryz.sizeOf5
  v5 := Tryz.zeroValue5
  t9 := Tryz.underlying9
  a9 := Tryz.isAgg9
  z9 := Tryz.sizeOf9
  v9 := Tryz.zeroValue9
  t28 := Tryz.underlying24
  a28 := Tryz.isAgg24
  z28 := Tryz.sizeOf24
  v28 := Tryz.zeroValue24
  t46 := Tryz.underlying30
  a46 := Tryz.isAgg30
  z46 := Tryz.sizeOf30
  v46 := Tryz.zeroValue30
  t51 := Tryz.underlying181
  a51 := Tryz.isAgg181
  z51 := Tryz.sizeOf181
  v51 := Tryz.zeroValue181
  t53 := Tryz.underlying183
  a53 := Tryz.isAgg183
  z53 := Tryz.sizeOf183
  v53 := Tryz.zeroValue183
  t131 := Tryz.underlying178
  a131 := Tryz.isAgg178
  z131 := Tryz.sizeOf178
  v131 := Tryz.zeroValue178
  t182 := Tryz.underlying173
  a182 := Tryz.isAgg173
  z182 := Tryz.sizeOf173
  v182 := Tryz.zeroValue173
  t183 := Tryz.underlying174
  a183 := Tryz.isAgg174
  z183 := Tryz.sizeOf174
  v183 := Tryz.zeroValue174
  t218 := Tryz.underlying203
  a218 := Tryz.isAgg203
  z218 := Tryz.sizeOf203
  v218 := Tryz.zeroValue203
  t222 := Tryz.underlying97
  a222 := Tryz.isAgg97
  z222 := Tryz.sizeOf97
  v222 := Tryz.zeroValue97
  t228 := Tryz.underlying231
  a228 := Tryz.isAgg231
  z228 := Tryz.sizeOf231
  v228 := Tryz.zeroValue231
  t229 := Tryz.underlying232
  a229 := Tryz.isAgg232
  z229 := Tryz.sizeOf232
  v229 := Tryz.zeroValue232 }
open Go.Sort Go.RowKit in
theorem Tryz.slices_Sort_int (blk off cap : Nat) (zs : List Int) (w : World) (hH : Holds (Value.int .i64) w blk off zs.toArray) (hblk : blk < w.heap.size) (hsz : zs.length < 4611686018427387904) :
    Calls Tryz.prog 53 #[.slice (some ⟨blk, off, none⟩) zs.length cap] w fun e w' =>
      e = .returned (.tuple #[]) ∧ ∃ n os, w' = grow (putRow (Value.int .i64) (Sort.ahead w n) blk off (zs.mergeSort fun x y => decide (x ≤ y)).toArray) os := Any.slices_Sort_int Tryz.lays189 blk off cap zs w hH hblk hsz
def Tryz.lays107_ren : Go.Shelf.Ren := ⟨fun | 107 => 164 | 108 => 182 | n => n, fun | 28 => 24 | 3 => 3 | 4 => 4 | 0 => 0 | n => n, fun | n => n⟩
theorem Tryz.lays107 : Go.Proofs.Lays.n107 Tryz.prog Tryz.lays107_ren := {
  mixed := by kernel_rfl
  f107 := Tryz.func164.trans (congrArg some (by kernel_rfl))
  f108 := Tryz.func182.trans (congrArg some (by kernel_rfl))
  t0 := Tryz.underlying0
  a0 := Tryz.isAgg0
  z0 := Tryz.sizeOf0
  v0 := Tryz.zeroValue0
  t3 := Tryz.underlying3
  a3 := Tryz.isAgg3
  z3 := Tryz.sizeOf3
  v3 := Tryz.zeroValue3
  t4 := Tryz.underlying4
  a4 := Tryz.isAgg4
  z4 := Tryz.sizeOf4
  v4 := Tryz.zeroValue4
  t28 := Tryz.underlying24
  a28 := Tryz.isAgg24
  z28 := Tryz.sizeOf24
  v28 := Tryz.zeroValue24 }
open Go.Lib in
/-- slices.Contains at []int: "Contains reports whether v is present in s.": IT RETURNS 'elements.contains v'; the world is as it was. ITS CALLEE slices.Index IS MET BY ITS OWN CONTRACT OFF THE SHELF (lay that first): no loop is walked here. (LAID: no walk: one application.) -/
theorem Tryz.slices_Contains_int (b off n c : Nat) (zs : List Int) (x : Int) (w : World) (hz : n ≤ zs.length) (hbig : n ≤ 9223372036854775807) (hc : ∀ j, j < zs.length → w.cell? ⟨b, off + j, none⟩ = some (.int .i64 (zs.getD j 0))) :
    Calls Tryz.prog 164 #[.slice (some ⟨b, off, none⟩) n c, .int .i64 x] w fun e w' => e = .returned (.bool ((zs.take n).contains x)) ∧ w' = w := Any.slices_Contains_int Tryz.lays107 b off n c zs x w hz hbig hc
open Go.Lib in
/-- The same at a slice of length 0, a nil one too. (LAID: no walk: one application.) -/
theorem Tryz.slices_Contains_int_empty (a : Option Addr) (c : Nat) (x : Int) (w : World) :
    Calls Tryz.prog 164 #[.slice a 0 c, .int .i64 x] w fun e w' => e = .returned (.bool false) ∧ w' = w := Any.slices_Contains_int_empty Tryz.lays107 a c x w
def Tryz.lays109_ren : Go.Shelf.Ren := ⟨fun | 109 => 140 | n => n, fun | 31 => 25 | 9 => 9 | 3 => 3 | 0 => 0 | 4 => 4 | n => n, fun | n => n⟩
theorem Tryz.lays109 : Go.Proofs.Lays.n109 Tryz.prog Tryz.lays109_ren := {
  mixed := by kernel_rfl
  f109 := Tryz.func140.trans (congrArg some (by kernel_rfl))
  t0 := Tryz.underlying0
  a0 := Tryz.isAgg0
  z0 := Tryz.sizeOf0
  v0 := Tryz.zeroValue0
  t3 := Tryz.underlying3
  a3 := Tryz.isAgg3
  z3 := Tryz.sizeOf3
  v3 := Tryz.zeroValue3
  t4 := Tryz.underlying4
  a4 := Tryz.isAgg4
  z4 := Tryz.sizeOf4
  v4 := Tryz.zeroValue4
  t9 := Tryz.underlying9
  a9 := Tryz.isAgg9
  z9 := Tryz.sizeOf9
  v9 := Tryz.zeroValue9
  t31 := Tryz.underlying25
  a31 := Tryz.isAgg25
  z31 := Tryz.sizeOf25
  v31 := Tryz.zeroValue25 }
open Go.Lib in
/-- slices.Index at []string: "Index returns the index of the first occurrence of v in s, or -1 if not present.": IT RETURNS 'Lib.idxOfS (the elements) v'; the world is as it was. 'zs': what the cells behind the slice's address hold (its spare capacity too, if you have it); 'zs.take n': its elements. (LAID: no walk: one application.) -/
theorem Tryz.slices_Index_string (b off n c : Nat) (zs : List ByteArray) (x : ByteArray) (w : World) (hz : n ≤ zs.length) (hbig : n ≤ 9223372036854775807) (hc : ∀ j, j < zs.length → w.cell? ⟨b, off + j, none⟩ = some (.string (zs.getD j ByteArray.empty))) :
    Calls Tryz.prog 140 #[.slice (some ⟨b, off, none⟩) n c, .string x] w fun e w' => e = .returned (.int .i64 (Lib.idxOfS (zs.take n) x)) ∧ w' = w := Any.slices_Index_string Tryz.lays109 b off n c zs x w hz hbig hc
def Tryz.laysNm215_ren : Go.Shelf.Ren := ⟨fun | 15 => 165 | n => n, fun | 22 => 24 | 3 => 3 | 4 => 4 | n => n, fun | n => n⟩
theorem Tryz.laysNm215 : Go.Proofs.Lays2.n15 Tryz.prog Tryz.laysNm215_ren := {
  mixed := by kernel_rfl
  f15 := Tryz.func165.trans (congrArg some (by kernel_rfl))
  t3 := Tryz.underlying3
  a3 := Tryz.isAgg3
  z3 := Tryz.sizeOf3
  v3 := Tryz.zeroValue3
  t4 := Tryz.underlying4
  a4 := Tryz.isAgg4
  z4 := Tryz.sizeOf4
  v4 := Tryz.zeroValue4
  t22 := Tryz.underlying24
  a22 := Tryz.isAgg24
  z22 := Tryz.sizeOf24
  v22 := Tryz.zeroValue24
  i3 := by kernel_rfl }
open Go.RowKit Go.Lib in
/-- slices.Clone at []int: "Clone returns a copy of the slice. The elements are copied using assignment, so this is a shallow clone. The result may have additional unused capacity. The result preserves the nilness of s.": OF A SLICE THAT IS NOT nil IT RETURNS A SLICE THAT IS NOT nil, OF THE SAME ELEMENTS, IN MEMORY OF THE CALL's OWN: in the how-to's words (6f): 'w'.ownsRow B e 1 v' n cells': v' begins at the head of a row among the blocks from B on (B: the heap's size at the call), not frozen, whose first cells are the elements · 'Below B w w'': below B all is as it was. The capacity is whatever the run-time gives. 'zs': what the cells behind the slice's address hold; 'zs.take n': its elements. (LAID: no walk: one application.) -/
theorem Tryz.slices_Clone_int (b off n c : Nat) (zs : List Int) (w : World) (hz : n ≤ zs.length) (hbig : n * 8 ≤ 140737488355328) (hc : ∀ j, j < zs.length → w.cell? ⟨b, off + j, none⟩ = some (.int .i64 (zs.getD j 0))) :
    Calls Tryz.prog 165 #[.slice (some ⟨b, off, none⟩) n c] w fun e w' => ∃ v', e = .returned v' ∧ w'.ownsRow w.heap.size 3 1 v' n ((zs.take n).map (Value.int .i64)) ∧ v' ≠ .slice none 0 0 ∧ Below w.heap.size w w' := Any.slices_Clone_int Tryz.laysNm215 b off n c zs w hz hbig hc
open Go.RowKit Go.Lib in
/-- The same at nil: nil comes back; the world is as it was. (LAID: no walk: one application.) -/
theorem Tryz.slices_Clone_int_nil (n c : Nat) (w : World) :
    Calls Tryz.prog 165 #[.slice none n c] w fun e w' => e = .returned (.slice none 0 0) ∧ w' = w := Any.slices_Clone_int_nil Tryz.laysNm215 n c w
def Tryz.laysSlH6_f183_ren : Go.Shelf.Ren := ⟨fun | 6 => 183 | n => n, fun | 22 => 24 | 23 => 3 | 25 => 166 | 3 => 3 | 0 => 0 | 4 => 4 | n => n, fun | n => n⟩
theorem Tryz.laysSlH6_f183 : Go.Proofs.SlLaysH.n6 Tryz.prog Tryz.laysSlH6_f183_ren := {
  mixed := by kernel_rfl
  f6 := ⟨Tryz.f183.name, by decide, Tryz.func183.trans (congrArg some (by kernel_rfl))⟩
  t0 := Tryz.underlying0
  a0 := Tryz.isAgg0
  z0 := Tryz.sizeOf0
  v0 := Tryz.zeroValue0
  t3 := Tryz.underlying3
  a3 := Tryz.isAgg3
  z3 := Tryz.sizeOf3
  v3 := Tryz.zeroValue3
  t4 := Tryz.underlying4
  a4 := Tryz.isAgg4
  z4 := Tryz.sizeOf4
  v4 := Tryz.zeroValue4
  t22 := Tryz.underlying24
  a22 := Tryz.isAgg24
  z22 := Tryz.sizeOf24
  v22 := Tryz.zeroValue24
  a23 := Tryz.isAgg3
  z23 := Tryz.sizeOf3
  t25 := Tryz.underlying166
  a25 := Tryz.isAgg166
  z25 := Tryz.sizeOf166
  v25 := Tryz.zeroValue166 }
open Go.RowKit Go.Lib in
/-- The same at a slice of length 0, a nil one too: the predicate is not called: nothing is asked of it. (LAID AT THE INSTANCE 'slices.IndexFunc[[]int,int]': no walk: one application.) -/
theorem Tryz.slices_IndexFunc_empty {α : Type} [Inhabited α] (a : Option Addr) (c : Nat) (fv : Value) (w : World) :
    Calls Tryz.prog 183 #[.slice a 0 c, fv] w fun e w' => e = .returned (.int .i64 (-1)) ∧ w' = w := AnyE.slices_IndexFunc_empty Tryz.laysSlH6_f183 a c fv w
def Tryz.laysSlH10_f170_ren : Go.Shelf.Ren := ⟨fun | 10 => 170 | 6 => 183 | n => n, fun | 22 => 24 | 23 => 3 | 25 => 166 | 3 => 3 | 4 => 4 | 0 => 0 | n => n, fun | n => n⟩
theorem Tryz.laysSlH10_f170 : Go.Proofs.SlLaysH.n10 Tryz.prog Tryz.laysSlH10_f170_ren := {
  mixed := by kernel_rfl
  f6 := ⟨Tryz.f183.name, by decide, Tryz.func183.trans (congrArg some (by kernel_rfl))⟩
  f10 := ⟨Tryz.f170.name, by decide, Tryz.func170.trans (congrArg some (by kernel_rfl))⟩
  t0 := Tryz.underlying0
  a0 := Tryz.isAgg0
  z0 := Tryz.sizeOf0
  v0 := Tryz.zeroValue0
  t3 := Tryz.underlying3
  a3 := Tryz.isAgg3
  z3 := Tryz.sizeOf3
  v3 := Tryz.zeroValue3
  t4 := Tryz.underlying4
  a4 := Tryz.isAgg4
  z4 := Tryz.sizeOf4
  v4 := Tryz.zeroValue4
  t22 := Tryz.underlying24
  a22 := Tryz.isAgg24
  z22 := Tryz.sizeOf24
  v22 := Tryz.zeroValue24
  a23 := Tryz.isAgg3
  z23 := Tryz.sizeOf3
  t25 := Tryz.underlying166
  a25 := Tryz.isAgg166
  z25 := Tryz.sizeOf166
  v25 := Tryz.zeroValue166 }
open Go.RowKit Go.Lib Go.Sort in
theorem Tryz.slices_DeleteFunc {α : Type} [Inhabited α] (enc : α → Value) (hO : OneCell enc) (p : α → Bool) (g : Nat) (lb : Array Value) (eg : ∀ args w, (callFunc g args).run Tryz.prog w = .ok (.enter g args) w) (zr : α) (v23 : ∀ w, (zeroValue 3).run Tryz.prog w = .ok (enc zr) w) (blk off cap : Nat) (d : Array α) (w : World) (hp : PredAt Tryz.prog g lb enc p w) (hpo : PredOver Tryz.prog g lb enc p blk off d.size w) (hH : Holds enc w blk off d) (hsz : d.size ≤ 9223372036854775807) (hcap : d.size ≤ cap) :
    Calls Tryz.prog 170 #[.slice (some ⟨blk, off, none⟩) d.size cap, .func (.func g) #[] lb] w fun e w' => e = .returned (.slice (some ⟨blk, off, none⟩) (d.toList.filter fun x => !p x).length cap) ∧ ∃ q, w' = putRow enc (Sort.ahead w q) blk off ((d.toList.filter fun x => !p x) ++ List.replicate (d.size - (d.toList.filter fun x => !p x).length) zr).toArray := AnyE.slices_DeleteFunc Tryz.laysSlH10_f170 enc hO p g lb eg zr v23 blk off cap d w hp hpo hH hsz hcap
def Tryz.keysA_ren : Go.Shelf.Ren := ⟨fun | 7 => 71 | 10 => 93 | n => n, fun | 23 => 85 | 26 => 3 | 3 => 112 | 28 => 135 | 0 => 0 | 27 => 134 | 33 => 166 | 4 => 4 | n => n, fun | n => n⟩
theorem Tryz.keysA : Go.Proofs.SlLaysZI.n7 Tryz.prog Tryz.keysA_ren := {
  mixed := by kernel_rfl
  f7 := ⟨Tryz.f71.name, by decide, Tryz.func71.trans (congrArg some (by kernel_rfl))⟩
  f10 := ⟨Tryz.f93.name, by decide, Tryz.func93.trans (congrArg some (by kernel_rfl))⟩
  t0 := Tryz.underlying0
  a0 := Tryz.isAgg0
  z0 := Tryz.sizeOf0
  v0 := Tryz.zeroValue0
  t4 := Tryz.underlying4
  a4 := Tryz.isAgg4
  z4 := Tryz.sizeOf4
  v4 := Tryz.zeroValue4
  t23 := Tryz.underlying85
  a23 := Tryz.isAgg85
  z23 := Tryz.sizeOf85
  v23 := Tryz.zeroValue85
  t26 := Tryz.underlying3
  a26 := Tryz.isAgg3
  z26 := Tryz.sizeOf3
  v26 := Tryz.zeroValue3
  t27 := Tryz.underlying134
  a27 := Tryz.isAgg134
  z27 := Tryz.sizeOf134
  v27 := Tryz.zeroValue134
  t28 := Tryz.underlying135
  a28 := Tryz.isAgg135
  z28 := Tryz.sizeOf135
  v28 := Tryz.zeroValue135
  t33 := Tryz.underlying166
  a33 := Tryz.isAgg166
  z33 := Tryz.sizeOf166
  v33 := Tryz.zeroValue166 }
def Tryz.sortedA_ren : Go.Shelf.Ren := ⟨fun | 6 => 70 | 8 => 92 | 9 => 53 | 11 => 127 | 13 => 79 | 12 => 78 | 23 => 107 | 24 => 108 | 14 => 98 | 15 => 99 | 16 => 100 | 17 => 101 | 18 => 102 | 19 => 103 | 20 => 104 | 21 => 105 | 22 => 106 | 25 => 128 | 26 => 129 | 27 => 130 | 28 => 131 | 29 => 132 | 30 => 133 | 31 => 155 | n => n, fun | 26 => 3 | 28 => 135 | 24 => 24 | 0 => 0 | 3 => 3 | 37 => 30 | 48 => 181 | 50 => 183 | 4 => 4 | 40 => 174 | 39 => 173 | 45 => 178 | 5 => 5 | 9 => 9 | 51 => 203 | 55 => 97 | 57 => 231 | 58 => 232 | 33 => 166 | n => n, fun | n => n⟩
theorem Tryz.sortedA : Go.Proofs.SlLaysZI.n6 Tryz.prog Tryz.sortedA_ren := {
  mixed := by kernel_rfl
  f6 := ⟨Tryz.f70.name, by decide, Tryz.func70.trans (congrArg some (by kernel_rfl))⟩
  f8 := ⟨Tryz.f92.name, by decide, Tryz.func92.trans (congrArg some (by kernel_rfl))⟩
  f11 := ⟨Tryz.f127.name, by decide, Tryz.func127.trans (congrArg some (by kernel_rfl))⟩
  t0 := Tryz.underlying0
  a0 := Tryz.isAgg0
  z0 := Tryz.sizeOf0
  v0 := Tryz.zeroValue0
  t24 := Tryz.underlying24
  a24 := Tryz.isAgg24
  z24 := Tryz.sizeOf24
  v24 := Tryz.zeroValue24
  t26 := Tryz.underlying3
  a26 := Tryz.isAgg3
  z26 := Tryz.sizeOf3
  v26 := Tryz.zeroValue3
  t28 := Tryz.underlying135
  a28 := Tryz.isAgg135
  z28 := Tryz.sizeOf135
  v28 := Tryz.zeroValue135
  i26 := by kernel_rfl }
theorem Tryz.slices_Sort_int_none (p : Option Addr) (cap : Nat) (w : World) :
    Calls Tryz.prog 53 #[.slice p 0 cap] w fun e w' => e = .returned (.tuple #[]) ∧ w' = w := Any.slices_Sort_int_none Tryz.lays189 p cap w
end Go.Proofs

/- floor: forget, and what goes with it. -/
namespace Go.Proofs.YtfkamoiamebngaaGreatDoor.BroW
open Go.RowKit Go.Proofs.YtfkamoiamebngaaGreatDoorW.PrintWords Go.Proofs.YtfkamoiamebngaaGreatDoorW.PrintMore Go.Proofs.YtfkamoiamebngaaGreatDoor.Fr Go.Proofs.YtfkamoiamebngaaGreatDoor.ScrW Go.Proofs.YtfkamoiamebngaaGreatDoor.ScrP Go.Proofs.YtfkamoiamebngaaGreatDoor.Mod
open Go.Shelf Go.Sort
set_option linter.unusedVariables false
set_option linter.unusedSimpArgs false

/-- a table at block g, its roles at mb -/
def IsTb (W : World) (g mb : Nat) (qv : Value) (t : Tb) : Prop :=
  W.heap[g]? = some (.cells #[.int .i64 t.lease, .int .i64 t.left, .int .i64 t.holder, qv, .map (some mb)] 110 (0, 0)) ∧ MapAt W mb (fun i => (t.roles i).map (Value.int .i64)) ∧
  W.ownsRow 0 3 1 qv t.queue.length (nums .i64 t.queue) ∧ g ≠ mb ∧ qv.ownBlock ≠ some g ∧ qv.ownBlock ≠ some mb ∧ t.queue.length ≤ 1000000
def tbS (g mb : Nat) : Nat → Prop := fun i => i = g ∨ i = mb
/-- the queue's row is the old one, or a new one -/
def NewOr (w : World) (qv qv' : Value) : Prop := ∀ b, qv'.ownBlock = some b → qv.ownBlock = some b ∨ w.heap.size ≤ b
theorem NewOr.refl (w : World) (v : Value) : NewOr w v v := fun b h => .inl h
theorem NewOr.trans {w w1 : World} {a b c : Value} (h : NewOr w a b) (k : NewOr w1 b c) (hs : w.heap.size ≤ w1.heap.size) : NewOr w a c := fun i hi => by
  rcases k i hi with h1 | h1
  · exact h i h1
  · exact .inr (by omega)
theorem IsTb.fr {S : Nat → Prop} {w w1 : World} {g mb : Nat} {qv : Value} {t : Tb} (h : IsTb w g mb qv t) (hF : Fr S w w1) (h1 : ¬ S g) (h2 : ¬ S mb) (h3 : ∀ b, qv.ownBlock = some b → ¬ S b) : IsTb w1 g mb qv t :=
  ⟨hF.blk h.1 h1, h.2.1.fr hF h2, hF.own h.2.2.1 h3, h.2.2.2⟩
theorem IsTb.lt {w : World} {g mb : Nat} {qv : Value} {t : Tb} (h : IsTb w g mb qv t) : g < w.heap.size ∧ mb < w.heap.size ∧ ∀ b, qv.ownBlock = some b → b < w.heap.size :=
  ⟨blk_lt h.1, h.2.1.lt, fun b hb => (own_old h.2.2.1 hb).2⟩
theorem IsTb.alloc {w : World} {g mb : Nat} {qv : Value} {t : Tb} (h : IsTb w g mb qv t) (o : Obj) : IsTb (w.alloc o) g mb qv t := h.fr ((Fr.refl nope w).alloc o) (fun h => h) (fun h => h) (fun _ _ h => h)
theorem IsTb.setq {w : World} {g mb : Nat} {qv : Value} {t : Tb} (h : IsTb w g mb qv t) {v : Value} {q : List Int} (ho : w.ownsRow 0 3 1 v q.length (nums .i64 q)) (h1 : v.ownBlock ≠ some g) (h2 : v.ownBlock ≠ some mb) (hl : q.length ≤ 1000000) :
    IsTb (w.setCell ⟨g, 3, none⟩ v) g mb v { t with queue := q } :=
  ⟨blk_set h.1 3 _, h.2.1.fr ((Fr.refl (only g) w).set (fun _ => rfl) 3 _) (fun e => h.2.2.2.1 e.symm), own_setCell ho (fun e => h1 e.symm) _, h.2.2.2.1, h1, h2, hl⟩
theorem IsTb.setl {w : World} {g mb : Nat} {qv : Value} {t : Tb} (h : IsTb w g mb qv t) (x : Int) : IsTb (w.setCell ⟨g, 1, none⟩ (.int .i64 x)) g mb qv { t with left := x } :=
  ⟨blk_set h.1 1 _, h.2.1.fr ((Fr.refl (only g) w).set (fun _ => rfl) 1 _) (fun e => h.2.2.2.1 e.symm), own_setCell h.2.2.1 (fun e => h.2.2.2.2.1 e.symm) _, h.2.2.2⟩
theorem IsTb.seth {w : World} {g mb : Nat} {qv : Value} {t : Tb} (h : IsTb w g mb qv t) (x : Int) : IsTb (w.setCell ⟨g, 2, none⟩ (.int .i64 x)) g mb qv { t with holder := x } :=
  ⟨blk_set h.1 2 _, h.2.1.fr ((Fr.refl (only g) w).set (fun _ => rfl) 2 _) (fun e => h.2.2.2.1 e.symm), own_setCell h.2.2.1 (fun e => h.2.2.2.2.1 e.symm) _, h.2.2.2⟩

/-! ### forget's own function -/
theorem gives171 (id x : Int) (B : Nat) (W : World) (hc : W.cell? ⟨B, 0, none⟩ = some (.int .i64 id)) :
    FnGives Tryz.prog 171 #[.pointer (some ⟨B, 0, none⟩)] #[.int .i64 x] (.bool (decide (x = id))) W := by
  show Calls Tryz.prog 171 #[.int .i64 x, .pointer (some ⟨B, 0, none⟩)] W _
  by_cases h : x = id
  · have t1 : decide (x = id) = true := decide_eq_true h
    clear h
    rw [t1]
    go_enter Tryz.func171, Tryz.ntmps171
    go_wp2
    all_goals (go_ret; exact ⟨by simp_all, 0, rfl⟩)
  · have t1 : decide (x = id) = false := decide_eq_false h
    clear h
    rw [t1]
    go_enter Tryz.func171, Tryz.ntmps171
    go_wp2
    all_goals (go_ret; exact ⟨by simp_all, 0, rfl⟩)
theorem pred171 (id : Int) (B : Nat) (w : World) (hB : B < w.heap.size) (hcell : w.cell? ⟨B, 0, none⟩ = some (.int .i64 id)) :
    PredAt Tryz.prog 171 #[.pointer (some ⟨B, 0, none⟩)] (Value.int .i64) (fun x => decide (x = id)) w :=
  fun W x hb => gives171 id x B W ((hb.cell (p := ⟨B, 0, none⟩) hB).trans hcell)
theorem over171 (id : Int) (B blk off size : Nat) (w : World) (hB : B < w.heap.size) (hne : B ≠ blk) (hcell : w.cell? ⟨B, 0, none⟩ = some (.int .i64 id)) :
    PredOver Tryz.prog 171 #[.pointer (some ⟨B, 0, none⟩)] (Value.int .i64) (fun x => decide (x = id)) blk off size w :=
  fun n os dk x _ => gives171 id x B _ (by
    unfold sortWorld
    rw [cell?_grow _ _ _ (by show B < (putRow _ _ _ _ _).heap.size; rw [size_putRow]; exact hB), cell?_putRow_other _ _ blk off _ _ (Or.inl hne)]
    exact hcell)
theorem own_holds {w : World} {b : Nat} {e : TypeId} {g cap : Nat} {xs : List Int} (h : w.ownsRow b e 1 (.slice (some ⟨g, 0, none⟩) xs.length cap) xs.length (nums .i64 xs)) : Holds (Value.int .i64) w g 0 xs.toArray := by
  rcases h.2 with ⟨e1, _⟩ | ⟨g1, cap1, cur, e1, hb, hh, hn, hm, hs, hx⟩
  · cases e1
  · injection e1 with e2 _ e3
    injection e2 with e2
    injection e2 with e2 _
    subst e2; subst e3
    intro j hj
    have hj' : j < xs.length := by simpa using hj
    refine ⟨?_, blk_frozen hh _⟩
    rw [Nat.zero_add, blk_cell hh j]
    have h1 : cur.toList[j]? = some (.int .i64 (xs[j])) := by
      have : (cur.toList.take (xs.length * 1))[j]? = some (.int .i64 (xs[j])) := by rw [hx]; simp [nums, hj']
      rw [List.getElem?_take] at this
      simpa [show j < xs.length from hj'] using this
    simpa [hj'] using h1
theorem own_putRow {w : World} {b q : Nat} {e : TypeId} {g cap : Nat} {xs ys : List Int} (h : w.ownsRow b e 1 (.slice (some ⟨g, 0, none⟩) xs.length cap) xs.length (nums .i64 xs)) (hl : ys.length ≤ xs.length) (zs : List Int) (hz : zs.length = xs.length - ys.length) :
    (putRow (Value.int .i64) (Sort.ahead w q) g 0 (ys ++ zs).toArray).ownsRow b e 1 (.slice (some ⟨g, 0, none⟩) ys.length cap) ys.length (nums .i64 ys) := by
  rcases h.2 with ⟨e1, _⟩ | ⟨g1, cap1, cur, e1, hb, hh, hn, hm, hs, hx⟩
  · cases e1
  · injection e1 with e2 _ e3
    injection e2 with e2
    injection e2 with e2 _
    subst e2; subst e3
    refine ⟨by simp [nums], .inr ⟨g, cap, putCells (Value.int .i64) 0 (ys ++ zs).toArray cur, rfl, hb, ?_, by omega, hm, by simp [putCells]; omega, ?_⟩⟩
    · simp [putRow, mapBlock, Array.getElem?_modify, Sort.ahead, hh, onCells]
    · apply List.ext_getElem?
      intro j
      rw [List.getElem?_take]
      by_cases hj : j < ys.length
      · rw [if_pos (by omega)]
        have hjc : j < cur.size := by omega
        have hjz : j < ys.length + zs.length := by omega
        simp [putCells, nums, hj, hjc, hjz, List.getElem?_append]
      · rw [if_neg (by omega)]
        simp [nums, hj]
theorem fr_putRow {w : World} {q g : Nat} {xs : Array Int} : Fr (only g) w (putRow (Value.int .i64) (Sort.ahead w q) g 0 xs) := by
  refine ⟨rfl, rfl, rfl, by simp [Sort.ahead], fun k hk hn => ?_⟩
  have : ¬ g = k := fun e => hn e.symm
  simp [putRow, mapBlock, Array.getElem?_modify, Sort.ahead, this]
theorem own_head {w : World} {b n : Nat} {e : TypeId} {v : Value} {xs : List Value} (h : w.ownsRow b e 1 v n xs) (hv : v ≠ .slice none 0 0) : ∃ g cap, v = .slice (some ⟨g, 0, none⟩) n cap ∧ b ≤ g ∧ n ≤ cap := by
  rcases h.2 with ⟨e1, _⟩ | ⟨g1, cap1, cur, e1, hb, hh, hn, hm, hs, hx⟩
  · exact absurd e1 hv
  · exact ⟨g1, cap1, e1, hb, hn⟩
theorem zero3 (w : World) : (zeroValue 3).run Tryz.prog w = .ok (.int .i64 0) w := by first | exact Tryz.zeroValue3 w | rfl

/-- DeleteFunc of nothing -/
theorem del_nil (fv : Value) (w : World) : Calls Tryz.prog 170 #[.slice none 0 0, fv] w fun e w' => e = .returned (.slice none 0 0) ∧ w' = w := by
  go_enter Tryz.func170, Tryz.ntmps170
  go_wp2_with (go_at_call 183; refine (Tryz.slices_IndexFunc_empty (α := Int) none 0 fv _).mono ?_; rintro e w' ⟨rfl, hw⟩; have hw := hw.symm; subst hw)
  go_returns
  exact ⟨rfl, rfl⟩

def QTb (t1 : Tb) (r : Value) (g mb : Nat) (qv : Value) (w : World) (e : Ending) (w' : World) : Prop :=
  ∃ qv', e = .returned r ∧ IsTb w' g mb qv' t1 ∧ NewOr w qv qv' ∧ Fr (tbS g mb) w w'
set_option maxRecDepth 100000 in
set_option maxHeartbeats 1000000 in
theorem tforget_calls (t : Tb) (id : Int) (g mb : Nat) (qv : Value) (w : World) (h : IsTb w g mb qv t) :
    Calls Tryz.prog 153 #[.pointer (some ⟨g, 0, none⟩), .int .i64 id] w (QTb (t.forget id) (.tuple #[]) g mb qv w) := by
  have HT := Aside0.mk h
  obtain ⟨hb, hm, ho, hne, hq1, hq2, hl⟩ := h
  have HO := Aside0.mk ho
  have HB := Aside0.mk hb
  have hg : g < w.heap.size := blk_lt hb
  have c3 : w.cell? ⟨g, 3, none⟩ = some qv := (blk_cell hb 3).trans rfl
  have f3 : ∀ o, (w.alloc o).frozen? ⟨g, 3, none⟩ = false := fun o => blk_frozen (blk_alloc hb o) 3
  rcases ho.2 with ⟨e1, h0⟩ | ⟨g1, cap1, cur, e1, _, hh, hn, hmx, hs, hx⟩
  · subst e1
    have hqn : t.queue = [] := List.eq_nil_of_length_eq_zero h0
    have hf : t.forget id = t := by cases t; simp [Tb.forget] at hqn ⊢; simp [hqn]
    have HF := Aside0.mk hf
    clear ho hb hm hf hqn h0 hl hq1 hq2
    go_enter Tryz.func153, Tryz.ntmps153
    go_wp2_with (first | (go_at_call 165; refine (Tryz.slices_Clone_int_nil 0 0 _).mono ?_; rintro e w' ⟨rfl, hw⟩; have hw := hw.symm; subst hw) | (go_at_call 170; refine (del_nil _ _).mono ?_; rintro e w' ⟨rfl, hw⟩; have hw := hw.symm; subst hw))
    go_end0
    refine ⟨_, rfl, ?_, NewOr.refl _ _, ((Fr.refl (tbS g mb) w).set (fun _ => .inl rfl) 3 (.slice none 0 0)).alloc _⟩
    rw [HF.out]
    exact (HT.out.setq HT.out.2.2.1 (by simp [Value.ownBlock]) (by simp [Value.ownBlock]) HT.out.2.2.2.2.2.2).alloc _
  · subst e1
    have hc : ∀ j, j < t.queue.length → w.cell? ⟨g1, 0 + j, none⟩ = some (.int .i64 (t.queue.getD j 0)) := by
      intro j hj
      have := (own_holds ho j (by simpa using hj)).1
      rw [this]
      simp [List.getD_eq_getElem?_getD, hj]
    have hqq : ∀ o, ∀ j, j < t.queue.length → (w.alloc o).cell? ⟨g1, 0 + j, none⟩ = some (.int .i64 (t.queue.getD j 0)) := fun o j hj => Lib.cell?_alloc_some _ (hc j hj)
    have HC := Aside0.mk hqq
    obtain ⟨ys, hys⟩ : ∃ l, l = t.queue.filter fun x => !(x == id) := ⟨_, rfl⟩
    have hyl : ys.length ≤ t.queue.length := by rw [hys]; exact List.length_filter_le _ _
    have HYS := Aside0.mk hys
    have hyf : ((t.queue.toArray).toList.filter fun x => !decide (x = id)) = ys := by rw [hys]; rfl
    have HYF := Aside0.mk hyf
    have hqs : t.queue.toArray.size = t.queue.length := rfl
    have eg : ∀ args w, (callFunc 171 args).run Tryz.prog w = .ok (.enter 171 args) w := enters_of Tryz.func171 (by kernel_rfl) rfl
    clear ho hb hm hc hqq hyf hx hs hq1 hq2 hys
    go_enter Tryz.func153, Tryz.ntmps153
    go_wp2_with (first | (go_at_call 165; refine (Tryz.slices_Clone_int g1 0 t.queue.length cap1 t.queue _ (Nat.le_refl _) (by omega) (HC.out _)).mono ?_; rintro e w1 ⟨v1, rfl, ho1, hv1, hbl⟩; rw [List.take_length] at ho1; have hv2 := own_head ho1 hv1; obtain ⟨g2, c2, rfl, hg2, hc2⟩ := hv2; have HO1 := Aside0.mk ho1; have HF1 := Aside0.mk (((Fr.refl nope w).alloc (.cells #[.int .i64 id] 3)).below hbl); have hg2' : w.heap.size + 1 ≤ g2 := (by rw [World.size_alloc] at hg2; exact hg2); have hi1 : w1.cell? ⟨w.heap.size, 0, none⟩ = some (.int .i64 id) := (hbl.cell (p := ⟨w.heap.size, 0, none⟩) (by simp)).trans (by simp); have HI1 := Aside0.mk hi1; have hg3 : g2 < w1.heap.size := (own_old ho1 (i := g2) rfl).2; clear ho1 hv1 hbl hg2 hi1) | (go_at_call 170; have hd := Tryz.slices_DeleteFunc (Value.int .i64) (fun _ => rfl) (fun x => decide (x = id)) 171 #[.pointer (some ⟨w.heap.size, 0, none⟩)] eg 0 zero3 g2 0 c2 t.queue.toArray w1 (pred171 id _ _ (by omega) HI1.out) (over171 id _ _ _ _ _ (by omega) (by omega) HI1.out) (own_holds HO1.out) (by rw [hqs]; omega) (by rw [hqs]; omega); rw [HYF.out, hqs] at hd; refine hd.mono ?_; clear hd; rintro e w2 ⟨rfl, q, hq⟩; have ho2 := own_putRow (q := q) HO1.out hyl (List.replicate (t.queue.length - ys.length) 0) (by simp); have hf2 : Fr (only g2) w1 w2 := (by rw [hq]; exact fr_putRow); rw [← hq] at ho2; have HO2 := Aside0.mk ho2; have HF2 := Aside0.mk hf2; have hf3 : Fr nope w w2 := HF1.out.trans hf2 (fun i hi hs => (by have hs : i = g2 := hs; omega)); have HF3 := Aside0.mk hf3; have hB2 := hf3.blk HB.out (fun h => h); have c2' : w2.cell? ⟨g, 3, none⟩ = some _ := (blk_cell hB2 3).trans rfl; have f2 := blk_frozen hB2 3; clear hq ho2 hf2 hB2 hf3))
    go_end0
    have hlt := HT.out.lt
    have hT2 := HT.out.fr HF3.out (fun h => h) (fun h => h) (fun _ _ h => h)
    have hT3 := hT2.setq (own_base_le HO2.out (Nat.zero_le _)) (by simp only [Value.ownBlock, ne_eq, Option.some.injEq]; omega) (by simp only [Value.ownBlock, ne_eq, Option.some.injEq]; omega) (by omega)
    refine ⟨.slice (some ⟨g2, 0, none⟩) ys.length c2, rfl, ?_, ?_, (HF3.out.mono (fun _ _ h => h.elim)).set (fun _ => .inl rfl) 3 _⟩
    · unfold Tb.forget
      rw [← HYS.out]
      exact hT3
    · intro b hb
      simp only [Value.ownBlock, Option.some.injEq] at hb
      exact .inr (by omega)
end Go.Proofs.YtfkamoiamebngaaGreatDoor.BroW

/- floor: the other functions. -/
namespace Go.Proofs.YtfkamoiamebngaaGreatDoor.BroW
open Go.RowKit Go.Proofs.YtfkamoiamebngaaGreatDoorW.PrintWords Go.Proofs.YtfkamoiamebngaaGreatDoorW.PrintMore Go.Proofs.YtfkamoiamebngaaGreatDoor.Fr Go.Proofs.YtfkamoiamebngaaGreatDoor.ScrW Go.Proofs.YtfkamoiamebngaaGreatDoor.ScrP Go.Proofs.YtfkamoiamebngaaGreatDoor.Mod
set_option linter.unusedVariables false
set_option linter.unusedSimpArgs false

theorem tnew_calls (lease : Int) (w : World) (h1 : 1 ≤ lease) (h2 : lease ≤ 1000) :
    Calls Tryz.prog 96 #[.int .i64 lease] w fun e w' => e = .returned (.pointer (some ⟨w.heap.size + 1, 0, none⟩)) ∧ IsTb w' (w.heap.size + 1) w.heap.size (.slice none 0 0) ⟨lease, 0, 0, [], fun _ => none⟩ ∧ Fr nope w w' := by
  have k1 := fun ts t w => run_imin (P := Tryz.prog) lease 1000 lease (by omega) ts t w
  have k2 := fun ts t w => run_imax (P := Tryz.prog) 1 lease lease (by omega) ts t w
  have k3 := fun t w => run_makeMap (P := Tryz.prog) t w
  go_enter Tryz.func96, Tryz.ntmps96
  go_wp2
  go_returns
  refine ⟨rfl, ⟨?_, (mapAt_made w).fr ((Fr.refl nope _).alloc _) (fun h => h), World.ownsRow_nil _ _ _ _, by omega, by simp [Value.ownBlock], by simp [Value.ownBlock], by simp⟩, ((Fr.refl _ _).alloc _).alloc _⟩
  have := blk_second w (.map #[] 0) (.cells #[.int .i64 lease, .int .i64 0, .int .i64 0, .slice none 0 0, .map (some w.heap.size)] 110)
  simpa using this

theorem QTb.at {t1 : Tb} {r : Value} {g mb : Nat} {qv qv1 : Value} {w w2 : World} (hT : IsTb w2 g mb qv1 t1) (hn : NewOr w qv qv1) (hf : Fr (tbS g mb) w w2) : QTb t1 r g mb qv w (.returned r) w2 := ⟨qv1, rfl, hT, hn, hf⟩
theorem tb_set {S : Nat → Prop} {g mb : Nat} {w w1 : World} (hf : Fr S w w1) (hS : ∀ i, S i → tbS g mb i) (j : Nat) (v : Value) : Fr (tbS g mb) w (w1.setCell ⟨g, j, none⟩ v) := (hf.mono (fun i _ h => hS i h)).set (fun _ => .inl rfl) j v

set_option maxHeartbeats 1000000 in
theorem tgrant_calls (t : Tb) (id : Int) (g mb : Nat) (qv : Value) (w : World) (h : IsTb w g mb qv t) :
    Calls Tryz.prog 124 #[.pointer (some ⟨g, 0, none⟩), .int .i64 id] w (QTb (t.grant id) (.tuple #[]) g mb qv w) := by
  have HT := Aside0.mk h
  have hg : g < w.heap.size := h.lt.1
  clear h
  go_enter Tryz.func124, Tryz.ntmps124
  go_wp2_with (go_at_call 153; refine (tforget_calls t id g mb qv _ HT.out).mono ?_; rintro e w1 ⟨qv1, rfl, hT1, hn1, hf1⟩; have c0 : w1.cell? ⟨g, 0, none⟩ = some (.int .i64 t.lease) := (blk_cell hT1.1 0).trans rfl; have c1 : w1.cell? ⟨g, 1, none⟩ = some (.int .i64 (t.forget id).left) := (blk_cell hT1.1 1).trans rfl; have c2 : w1.cell? ⟨g, 2, none⟩ = some (.int .i64 (t.forget id).holder) := (blk_cell hT1.1 2).trans rfl; have f1 := blk_frozen hT1.1 1; have f2 := blk_frozen hT1.1 2; have hg1 := hT1.lt.1; have HT1 := Aside0.mk hT1; have HN1 := Aside0.mk hn1; have HF1 := Aside0.mk hf1; clear hT1 hn1 hf1)
  go_end0
  exact QTb.at ((HT1.out.seth id).setl t.lease) HN1.out (tb_set (tb_set HF1.out (fun _ h => h) 2 _) (fun _ h => h) 1 _)

set_option maxHeartbeats 1000000 in
theorem tpass_calls (t : Tb) (g mb : Nat) (qv : Value) (w : World) (h : IsTb w g mb qv t) :
    Calls Tryz.prog 89 #[.pointer (some ⟨g, 0, none⟩)] w (QTb t.pass (.tuple #[]) g mb qv w) := by
  have HT := Aside0.mk h
  have hg : g < w.heap.size := h.lt.1
  have c1 : w.cell? ⟨g, 1, none⟩ = some (.int .i64 t.left) := (blk_cell h.1 1).trans rfl
  have c2 : w.cell? ⟨g, 2, none⟩ = some (.int .i64 t.holder) := (blk_cell h.1 2).trans rfl
  have c3 : w.cell? ⟨g, 3, none⟩ = some qv := (blk_cell h.1 3).trans rfl
  have f1 := blk_frozen h.1 1
  have f2 := blk_frozen h.1 2
  obtain ⟨Aq, cq, rfl⟩ := own_slice h.2.2.1
  rcases hq : t.queue with _ | ⟨x, l⟩
  · have hp : t.pass = { t with holder := 0, left := 0 } := by unfold Tb.pass; rw [hq]
    have HP := Aside0.mk hp
    have HQ := Aside0.mk hq
    rw [hq] at c3
    simp only [List.length_nil] at c3 ⊢
    clear h hp hq
    go_enter Tryz.func89, Tryz.ntmps89
    go_wp2
    go_end0
    rw [HP.out]
    refine QTb.at ((HT.out.seth 0).setl 0) ?_ (tb_set (tb_set (Fr.refl nope w) (fun _ h => h.elim) 2 _) (fun _ h => h) 1 _)
    rw [HQ.out]
    exact NewOr.refl _ _
  · have hp : t.pass = Tb.grant { t with holder := 0, left := 0 } x := by unfold Tb.pass; rw [hq]
    have HP := Aside0.mk hp
    have hm : t.queue.length ≤ 1000000 := h.2.2.2.2.2.2
    have hpos : 0 < t.queue.length := by rw [hq]; simp
    obtain ⟨n, hn⟩ : ∃ n, t.queue.length = n := ⟨_, rfl⟩
    obtain ⟨g1, cq1, e1, _, _⟩ := own_head h.2.2.1 (fun e => by injection e with _ e2 _; rw [hq] at e2; simp at e2)
    cases e1
    have hr := own_readsInt h.2.2.1
    obtain ⟨aq, e2, hc⟩ := hr.2.2 hpos
    cases e2
    have c0 : w.cell? ⟨g1, 0, none⟩ = some (.int .i64 x) := by
      have := hc 0 hpos
      rw [hq] at this
      exact this
    have hne : g1 ≠ g := by
      intro e
      exact h.2.2.2.2.1 (by simp only [Value.ownBlock]; rw [← e])
    have hne' : g ≠ g1 := fun e => hne e.symm
    rw [hn] at c3 hm hpos
    have hnp : (0 : Int) < n := by omega
    have HN := Aside0.mk hn
    have hp2 := ((HT.out.seth 0).setl 0)
    have HP2 := Aside0.mk hp2
    clear h hp hq hr hc hn hp2
    go_enter Tryz.func89, Tryz.ntmps89
    go_wp2_with (go_at_call 124; refine (tgrant_calls _ x g mb _ _ HP2.out).mono ?_; rintro e w1 ⟨qv1, rfl, hT1, hn1, hf1⟩; have HT1 := Aside0.mk hT1; have HN1 := Aside0.mk hn1; have HF1 := Aside0.mk hf1; clear hT1 hn1 hf1)
    go_end0
    rw [HP.out]
    refine QTb.at HT1.out ?_ ((tb_set (tb_set (Fr.refl nope w) (fun _ h => h.elim) 2 _) (fun _ h => h) 1 _).trans HF1.out (fun _ _ h => h))
    intro b hb
    rcases HN1.out b hb with h | h
    · exact .inl h
    · exact .inr (by simpa using h)

set_option maxHeartbeats 1000000 in
theorem tlose_calls (t : Tb) (id : Int) (g mb : Nat) (qv : Value) (w : World) (h : IsTb w g mb qv t) :
    Calls Tryz.prog 125 #[.pointer (some ⟨g, 0, none⟩), .int .i64 id] w (QTb (t.lose id) (.tuple #[]) g mb qv w) := by
  have HT := Aside0.mk h
  have hg : g < w.heap.size := h.lt.1
  clear h
  by_cases hh : t.holder = id
  · have hp : t.lose id = (t.forget id).pass := by unfold Tb.lose; rw [if_pos hh]
    have t1 : ((t.forget id).holder == id) = true := beq_iff_eq.2 hh
    have HP := Aside0.mk hp
    clear hp hh
    go_enter Tryz.func125, Tryz.ntmps125
    go_wp2_with (first | (go_at_call 153; refine (tforget_calls t id g mb qv _ HT.out).mono ?_; rintro e w1 ⟨qv1, rfl, hT1, hn1, hf1⟩; have c2 : w1.cell? ⟨g, 2, none⟩ = some (.int .i64 (t.forget id).holder) := (blk_cell hT1.1 2).trans rfl; have hg1 := hT1.lt.1; have HT1 := Aside0.mk hT1; have HN1 := Aside0.mk hn1; have HF1 := Aside0.mk hf1; clear hT1 hn1 hf1) | (go_at_call 89; refine (tpass_calls _ g mb _ _ HT1.out).mono ?_; rintro e w2 ⟨qv2, rfl, hT2, hn2, hf2⟩; have HT2 := Aside0.mk hT2; have HN2 := Aside0.mk hn2; have HF2 := Aside0.mk hf2; clear hT2 hn2 hf2))
    go_end0
    rw [HP.out]
    exact QTb.at HT2.out (HN1.out.trans HN2.out HF1.out.size) (HF1.out.trans HF2.out (fun _ _ h => h))
  · have hp : t.lose id = t.forget id := by unfold Tb.lose; rw [if_neg hh]
    have t1 : ((t.forget id).holder == id) = false := beq_eq_false_iff_ne.2 hh
    have HP := Aside0.mk hp
    clear hp hh
    go_enter Tryz.func125, Tryz.ntmps125
    go_wp2_with (first | (go_at_call 153; refine (tforget_calls t id g mb qv _ HT.out).mono ?_; rintro e w1 ⟨qv1, rfl, hT1, hn1, hf1⟩; have c2 : w1.cell? ⟨g, 2, none⟩ = some (.int .i64 (t.forget id).holder) := (blk_cell hT1.1 2).trans rfl; have hg1 := hT1.lt.1; have HT1 := Aside0.mk hT1; have HN1 := Aside0.mk hn1; have HF1 := Aside0.mk hf1; clear hT1 hn1 hf1) | fail)
    go_end0
    rw [HP.out]
    exact QTb.at HT1.out HN1.out HF1.out
end Go.Proofs.YtfkamoiamebngaaGreatDoor.BroW

/- floor: the exported functions. -/
namespace Go.Proofs.YtfkamoiamebngaaGreatDoor.BroW
open Go.RowKit Go.Proofs.YtfkamoiamebngaaGreatDoorW.PrintWords Go.Proofs.YtfkamoiamebngaaGreatDoorW.PrintMore Go.Proofs.YtfkamoiamebngaaGreatDoor.Fr Go.Proofs.YtfkamoiamebngaaGreatDoor.ScrW Go.Proofs.YtfkamoiamebngaaGreatDoor.ScrP Go.Proofs.YtfkamoiamebngaaGreatDoor.Mod
set_option linter.unusedVariables false
set_option linter.unusedSimpArgs false

theorem zero64 (w : World) : (zeroValue 64).run Tryz.prog w = .ok (.int .i64 0) w := by first | exact Tryz.zeroValue64 w | rfl
theorem IsTb.look {w : World} {g mb : Nat} {qv : Value} {t : Tb} (h : IsTb w g mb qv t) {id : Int} (hi : (Lit.int .i64 id).wf = true) :
    (Instr.lookup 108 (.map (some mb)) (.int .i64 id) true).run Tryz.prog w = .ok (.tuple #[.int .i64 ((t.roles id).getD 0), .bool (t.roles id).isSome]) w := by
  have := (h.2.1.look Tryz.underlying108 zero64 (zd := .lit (.int .i64 0)) rfl hi).2
  rw [this]
  cases t.roles id <;> rfl
theorem trole_calls (t : Tb) (id : Int) (g mb : Nat) (qv : Value) (w : World) (h : IsTb w g mb qv t) (hi : (Lit.int .i64 id).wf = true) :
    Calls Tryz.prog 44 #[.pointer (some ⟨g, 0, none⟩), .int .i64 id] w fun e w' => e = .returned (.tuple #[.int .i64 (t.role id), .bool (t.roles id).isSome]) ∧ w' = w := by
  have hl := h.look hi
  have hg : g < w.heap.size := h.lt.1
  have c4 : w.cell? ⟨g, 4, none⟩ = some (.map (some mb)) := (blk_cell h.1 4).trans rfl
  clear h
  go_enter Tryz.func44, Tryz.ntmps44
  go_wp2
  go_returns
  exact ⟨rfl, rfl⟩
theorem tholder_calls (t : Tb) (g mb : Nat) (qv : Value) (w : World) (h : IsTb w g mb qv t) :
    Calls Tryz.prog 34 #[.pointer (some ⟨g, 0, none⟩)] w fun e w' => e = .returned (.int .i64 t.holder) ∧ w' = w := by
  have hg : g < w.heap.size := h.lt.1
  have c2 : w.cell? ⟨g, 2, none⟩ = some (.int .i64 t.holder) := (blk_cell h.1 2).trans rfl
  clear h
  go_enter Tryz.func34, Tryz.ntmps34
  go_wp2
  go_returns
  exact ⟨rfl, rfl⟩
set_option maxHeartbeats 1000000 in
theorem tmay_calls (t : Tb) (id : Int) (g mb : Nat) (qv : Value) (w : World) (h : IsTb w g mb qv t) (hi : (Lit.int .i64 id).wf = true) :
    Calls Tryz.prog 163 #[.pointer (some ⟨g, 0, none⟩), .int .i64 id] w fun e w' => e = .returned (.int .i64 (t.may id)) ∧ w' = w := by
  have hl := h.look hi
  have hg : g < w.heap.size := h.lt.1
  have c2 : w.cell? ⟨g, 2, none⟩ = some (.int .i64 t.holder) := (blk_cell h.1 2).trans rfl
  have c4 : w.cell? ⟨g, 4, none⟩ = some (.map (some mb)) := (blk_cell h.1 4).trans rfl
  clear h
  cases hr : t.roles id with
  | none =>
    have hm : t.may id = 2 := by unfold Tb.may; rw [hr]
    rw [hr] at hl
    rw [hm]
    simp only [Option.getD_none, Option.isSome_none] at hl
    clear hr hm
    go_enter Tryz.func163, Tryz.ntmps163
    go_wp2
    go_returns
    exact ⟨rfl, rfl⟩
  | some r =>
    rw [hr] at hl
    simp only [Option.getD_some, Option.isSome_some] at hl
    by_cases h0 : r = 0
    · have hm : t.may id = 4 := by unfold Tb.may; rw [hr]; simp [h0]
      rw [hm]
      subst h0
      clear hr hm
      go_enter Tryz.func163, Tryz.ntmps163
      go_wp2
      go_returns
      exact ⟨rfl, rfl⟩
    · have t0 : (r == 0) = false := beq_eq_false_iff_ne.2 h0
      by_cases hh : t.holder = id
      · have hm : t.may id = 3 := by unfold Tb.may; rw [hr]; simp [h0, hh]
        have t1 : (t.holder == id) = true := beq_iff_eq.2 hh
        rw [hm]
        clear hr hm hh h0
        go_enter Tryz.func163, Tryz.ntmps163
        go_wp2
        go_returns
        exact ⟨rfl, rfl⟩
      · have hm : t.may id = 0 := by unfold Tb.may; rw [hr]; simp [h0, hh]
        have t1 : (t.holder == id) = false := beq_eq_false_iff_ne.2 hh
        rw [hm]
        clear hr hm hh h0
        go_enter Tryz.func163, Tryz.ntmps163
        go_wp2
        go_returns
        exact ⟨rfl, rfl⟩
end Go.Proofs.YtfkamoiamebngaaGreatDoor.BroW
