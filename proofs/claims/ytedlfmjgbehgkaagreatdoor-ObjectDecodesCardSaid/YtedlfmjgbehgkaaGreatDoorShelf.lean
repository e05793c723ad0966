/-
  DERIVED: THE SHELF's CONTRACTS AT THIS DUMP, IN PLAIN WORDS (tools/lay-plain.mjs out of 'TryzShelf.lean', which tools/lay-shelf.mjs wrote): THE SAME DECLARATIONS UNDER THE SAME NAMES: 'import', 'namespace', 'open', 'def', 'theorem' AND NOTHING ELSE: no command of the shelf's: FOR A HAND-IN. Each laying: the table of numbers ('.._ren') and one theorem, a field a fact of the dump's own or the kernel's comparison; each contract: ONE APPLICATION.
-/
import Derived.Shelf.Small.Bits
import Derived.Shelf.Small.Wraps
import Derived.Shelf.Utf8.RuneCount
import Derived.Shelf.Strconv.Atoi
import Derived.Shelf.Strconv.Itoa0
import Derived.Shelf.Strconv.Itoa1
import Derived.Shelf.LaysM
import Derived.Shelf.Strconv.Itoa2
import Derived.Shelf.Strconv.Itoa3
import Derived.Shelf.Strconv.AtoiErrFast
import Derived.Shelf.Strconv.ParseIntEmpty
import Derived.Shelf.Strconv.AtoiFail
import Derived.Shelf.Strconv.Clone
import Derived.Shelf.Strconv.SyntaxError
import Derived.Shelf.LaysC
import Derived.Shelf.Strconv.ToError
import Derived.Shelf.Strconv.AtoiErr
import Derived.Shelf.Strconv.Lower
import Derived.Shelf.Strconv.ParseUint10
import Derived.Shelf.Strconv.ParseUint10Empty
import Derived.Shelf.Strconv.ParseUint10Any
import Derived.Shelf.Strconv.ParseInt10
import Derived.Shelf.Strconv.RangeError
import Derived.Shelf.Strconv.ToErrorRange
import Derived.Shelf.Strconv.ParseUintEmpty
import Derived.Shelf.Strconv.ParseUint10b64
import Derived.Shelf.Strconv.ParseUint10b32
import Derived.Shelf.Strconv.ParseUint10b16
import Derived.Shelf.Strconv.ParseUint10b8
import Derived.Shelf.Strconv.ParseUint10At
import Derived.Shelf.Strconv.ParseInt10At64
import Derived.Shelf.Strconv.ParseInt10At32
import Derived.Shelf.Strconv.ParseInt10At16
import Derived.Shelf.Strconv.ParseInt10At8
import Derived.Shelf.Strings.Search1
import Derived.Shelf.Strings.Search2
import Derived.Shelf.Strings.Search3
import Derived.Shelf.Strings.Cut
import Derived.Shelf.Strings.Count
import Derived.Shelf.Strings.Shaped
import Derived.Shelf.Strings.Split
import Derived.Shelf.Strings.SplitShaped
import Derived.Shelf.Unicode.Decode
import Derived.Shelf.Strings.RuneCount
import Derived.Shelf.Strings.Explode
import Derived.Shelf.Unicode.DecodeSlow
import Derived.Shelf.Unicode.DecodeAny
import Derived.Ground.Names2Prog
import Derived.Shelf.Slices.SearchI
import Derived.Test.YtedlfmjgbehgkaaGreatDoorProg
namespace Go.Proofs
open Go.Shelf
def Tryz.lays172_ren : Go.Shelf.Ren := ⟨fun | 172 => 71 | 244 => 98 | 245 => 99 | 247 => 112 | 279 => 113 | 280 => 114 | 281 => 115 | 282 => 116 | 287 => 129 | 316 => 130 | 171 => 44 | 205 => 131 | 321 => 139 | 322 => 140 | 243 => 72 | 246 => 100 | 283 => 117 | 284 => 118 | 285 => 119 | 286 => 120 | 129 => 87 | 317 => 132 | 318 => 133 | 319 => 134 | 320 => 135 | 337 => 141 | 338 => 142 | n => n, fun | 9 => 9 | 3 => 3 | 75 => 109 | 76 => 110 | 4 => 4 | 5 => 5 | 167 => 152 | 37 => 51 | 0 => 0 | 85 => 153 | 2 => 2 | 168 => 155 | 53 => 93 | 175 => 168 | 46 => 100 | 210 => 172 | 127 => 185 | 145 => 188 | 143 => 186 | 21 => 21 | 171 => 158 | 173 => 160 | 212 => 175 | 51 => 128 | 20 => 20 | 213 => 176 | 232 => 189 | 233 => 190 | 80 => 47 | n => n, fun | 15 => 2 | 16 => 3 | 17 => 4 | 18 => 7 | 19 => 8 | n => n⟩
theorem Tryz.lays172 : Go.Proofs.Lays.n172 Tryz.prog Tryz.lays172_ren := {
  mixed := by kernel_rfl
  f129 := Tryz.func87.trans (congrArg some (by kernel_rfl))
  f171 := Tryz.func44.trans (congrArg some (by kernel_rfl))
  f172 := Tryz.func71.trans (congrArg some (by kernel_rfl))
  f205 := Tryz.func131.trans (congrArg some (by kernel_rfl))
  f243 := Tryz.func72.trans (congrArg some (by kernel_rfl))
  f244 := Tryz.func98.trans (congrArg some (by kernel_rfl))
  f245 := Tryz.func99.trans (congrArg some (by kernel_rfl))
  f246 := Tryz.func100.trans (congrArg some (by kernel_rfl))
  f247 := Tryz.func112.trans (congrArg some (by kernel_rfl))
  f279 := Tryz.func113.trans (congrArg some (by kernel_rfl))
  f280 := Tryz.func114.trans (congrArg some (by kernel_rfl))
  f281 := Tryz.func115.trans (congrArg some (by kernel_rfl))
  f282 := Tryz.func116.trans (congrArg some (by kernel_rfl))
  f283 := Tryz.func117.trans (congrArg some (by kernel_rfl))
  f284 := Tryz.func118.trans (congrArg some (by kernel_rfl))
  f285 := Tryz.func119.trans (congrArg some (by kernel_rfl))
  f286 := Tryz.func120.trans (congrArg some (by kernel_rfl))
  f287 := Tryz.func129.trans (congrArg some (by kernel_rfl))
  f316 := Tryz.func130.trans (congrArg some (by kernel_rfl))
  f317 := Tryz.func132.trans (congrArg some (by kernel_rfl))
  f318 := Tryz.func133.trans (congrArg some (by kernel_rfl))
  f319 := Tryz.func134.trans (congrArg some (by kernel_rfl))
  f320 := Tryz.func135.trans (congrArg some (by kernel_rfl))
  f321 := Tryz.func139.trans (congrArg some (by kernel_rfl))
  f322 := Tryz.func140.trans (congrArg some (by kernel_rfl))
  f337 := Tryz.func141.trans (congrArg some (by kernel_rfl))
  f338 := Tryz.func142.trans (congrArg some (by kernel_rfl))
  t0 := Tryz.underlying0
  a0 := Tryz.isAgg0
  z0 := Tryz.sizeOf0
  v0 := Tryz.zeroValue0
  t2 := Tryz.underlying2
  a2 := Tryz.isAgg2
  z2 := Tryz.sizeOf2
  v2 := Tryz.zeroValue2
  t3 := Tryz.underlying3
  a3 := Tryz.isAgg3
  z3 := Tryz.sizeOf3
  v3 := Tryz.zeroValue3
  t4 := Tryz.underlying4
  a4 := Tryz.isAgg4
  z4 := Tryz.sizeOf4
  v4 := Tryz.zeroValue4
  t5 := Tryz.underlying5
  a5 := Tryz.isAgg5
  z5 := Tryz.sizeOf5
  v5 := Tryz.zeroValue5
  t9 := Tryz.underlying9
  a9 := Tryz.isAgg9
  z9 := Tryz.sizeOf9
  v9 := Tryz.zeroValue9
  t20 := Tryz.underlying20
  a20 := Tryz.isAgg20
  z20 := Tryz.sizeOf20
  v20 := Tryz.zeroValue20
  t21 := Tryz.underlying21
  a21 := Tryz.isAgg21
  z21 := Tryz.sizeOf21
  v21 := Tryz.zeroValue21
  t37 := Tryz.underlying51
  a37 := Tryz.isAgg51
  z37 := Tryz.sizeOf51
  v37 := Tryz.zeroValue51
  t46 := Tryz.underlying100
  a46 := Tryz.isAgg100
  z46 := Tryz.sizeOf100
  v46 := Tryz.zeroValue100
  t51 := Tryz.underlying128
  a51 := Tryz.isAgg128
  z51 := Tryz.sizeOf128
  v51 := Tryz.zeroValue128
  t53 := Tryz.underlying93
  a53 := Tryz.isAgg93
  z53 := Tryz.sizeOf93
  v53 := Tryz.zeroValue93
  t75 := Tryz.underlying109
  a75 := Tryz.isAgg109
  z75 := Tryz.sizeOf109
  v75 := Tryz.zeroValue109
  t76 := Tryz.underlying110
  a76 := Tryz.isAgg110
  z76 := Tryz.sizeOf110
  v76 := Tryz.zeroValue110
  t85 := Tryz.underlying153
  a85 := Tryz.isAgg153
  z85 := Tryz.sizeOf153
  v85 := Tryz.zeroValue153
  t127 := Tryz.underlying185
  a127 := Tryz.isAgg185
  z127 := Tryz.sizeOf185
  v127 := Tryz.zeroValue185
  t143 := Tryz.underlying186
  a143 := Tryz.isAgg186
  z143 := Tryz.sizeOf186
  v143 := Tryz.zeroValue186
  t145 := Tryz.underlying188
  a145 := Tryz.isAgg188
  z145 := Tryz.sizeOf188
  v145 := Tryz.zeroValue188
  t167 := Tryz.underlying152
  a167 := Tryz.isAgg152
  z167 := Tryz.sizeOf152
  v167 := Tryz.zeroValue152
  t168 := Tryz.underlying155
  a168 := Tryz.isAgg155
  z168 := Tryz.sizeOf155
  v168 := Tryz.zeroValue155
  t171 := Tryz.underlying158
  a171 := Tryz.isAgg158
  z171 := Tryz.sizeOf158
  v171 := Tryz.zeroValue158
  t173 := Tryz.underlying160
  a173 := Tryz.isAgg160
  z173 := Tryz.sizeOf160
  v173 := Tryz.zeroValue160
  t175 := Tryz.underlying168
  a175 := Tryz.isAgg168
  z175 := Tryz.sizeOf168
  v175 := Tryz.zeroValue168
  t210 := Tryz.underlying172
  a210 := Tryz.isAgg172
  z210 := Tryz.sizeOf172
  v210 := Tryz.zeroValue172
  t212 := Tryz.underlying175
  a212 := Tryz.isAgg175
  z212 := Tryz.sizeOf175
  v212 := Tryz.zeroValue175
  t213 := Tryz.underlying176
  a213 := Tryz.isAgg176
  z213 := Tryz.sizeOf176
  t232 := Tryz.underlying189
  a232 := Tryz.isAgg189
  z232 := Tryz.sizeOf189
  v232 := Tryz.zeroValue189
  t233 := Tryz.underlying190
  a233 := Tryz.isAgg190
  z233 := Tryz.sizeOf190
  v233 := Tryz.zeroValue190
  g15 := by kernel_rfl
  g16 := by kernel_rfl
  g17 := by kernel_rfl
  g18 := by kernel_rfl
  g19 := by kernel_rfl }
open Go.RowKit in
/-- strconv.Atoi: "Atoi is equivalent to ParseInt(s, 10, 0), converted to type int.": AT A DECIMAL NUMERAL OF AT MOST 18 BYTES: its value, and a nil error. The world behind the call: the one new row that the library's '[]byte(s)' lays. (LAID: no walk: one application.) -/
theorem Tryz.strconv_Atoi (s : ByteArray) (n : Int) (hl : s.size ≤ 18) (h : Lib.atoi s.data.toList = some n) (w : World) :
    Calls Tryz.prog 71 #[.string s] w fun e w' => e = .returned (.tuple #[.int .i64 n, .nilIface]) ∧ ∃ t, w' = Lib.bytesWorld w 5 t := Any.strconv_Atoi Tryz.lays172 s n hl h w
def Tryz.lays171_ren : Go.Shelf.Ren := ⟨fun | 171 => 44 | 243 => 72 | 246 => 100 | 283 => 117 | 284 => 118 | 285 => 119 | 286 => 120 | 129 => 87 | 317 => 132 | 318 => 133 | 319 => 134 | 320 => 135 | 337 => 141 | 338 => 142 | n => n, fun | 3 => 3 | 9 => 9 | 2 => 2 | 4 => 4 | 171 => 158 | 0 => 0 | 53 => 93 | 37 => 51 | 5 => 5 | 173 => 160 | 212 => 175 | 51 => 128 | 20 => 20 | 213 => 176 | 46 => 100 | 232 => 189 | 233 => 190 | n => n, fun | 17 => 4 | 18 => 7 | 19 => 8 | n => n⟩
theorem Tryz.lays171 : Go.Proofs.Lays.n171 Tryz.prog Tryz.lays171_ren := {
  mixed := by kernel_rfl
  f129 := Tryz.func87.trans (congrArg some (by kernel_rfl))
  f171 := Tryz.func44.trans (congrArg some (by kernel_rfl))
  f243 := Tryz.func72.trans (congrArg some (by kernel_rfl))
  f246 := Tryz.func100.trans (congrArg some (by kernel_rfl))
  f283 := Tryz.func117.trans (congrArg some (by kernel_rfl))
  f284 := Tryz.func118.trans (congrArg some (by kernel_rfl))
  f285 := Tryz.func119.trans (congrArg some (by kernel_rfl))
  f286 := Tryz.func120.trans (congrArg some (by kernel_rfl))
  f317 := Tryz.func132.trans (congrArg some (by kernel_rfl))
  f318 := Tryz.func133.trans (congrArg some (by kernel_rfl))
  f319 := Tryz.func134.trans (congrArg some (by kernel_rfl))
  f320 := Tryz.func135.trans (congrArg some (by kernel_rfl))
  f337 := Tryz.func141.trans (congrArg some (by kernel_rfl))
  f338 := Tryz.func142.trans (congrArg some (by kernel_rfl))
  t0 := Tryz.underlying0
  a0 := Tryz.isAgg0
  z0 := Tryz.sizeOf0
  v0 := Tryz.zeroValue0
  t2 := Tryz.underlying2
  a2 := Tryz.isAgg2
  z2 := Tryz.sizeOf2
  v2 := Tryz.zeroValue2
  t3 := Tryz.underlying3
  a3 := Tryz.isAgg3
  z3 := Tryz.sizeOf3
  v3 := Tryz.zeroValue3
  t4 := Tryz.underlying4
  a4 := Tryz.isAgg4
  z4 := Tryz.sizeOf4
  v4 := Tryz.zeroValue4
  t5 := Tryz.underlying5
  a5 := Tryz.isAgg5
  z5 := Tryz.sizeOf5
  v5 := Tryz.zeroValue5
  t9 := Tryz.underlying9
  a9 := Tryz.isAgg9
  z9 := Tryz.sizeOf9
  v9 := Tryz.zeroValue9
  t20 := Tryz.underlying20
  a20 := Tryz.isAgg20
  z20 := Tryz.sizeOf20
  v20 := Tryz.zeroValue20
  t37 := Tryz.underlying51
  a37 := Tryz.isAgg51
  z37 := Tryz.sizeOf51
  v37 := Tryz.zeroValue51
  t46 := Tryz.underlying100
  a46 := Tryz.isAgg100
  z46 := Tryz.sizeOf100
  v46 := Tryz.zeroValue100
  t51 := Tryz.underlying128
  a51 := Tryz.isAgg128
  z51 := Tryz.sizeOf128
  v51 := Tryz.zeroValue128
  t53 := Tryz.underlying93
  a53 := Tryz.isAgg93
  z53 := Tryz.sizeOf93
  v53 := Tryz.zeroValue93
  t171 := Tryz.underlying158
  a171 := Tryz.isAgg158
  z171 := Tryz.sizeOf158
  v171 := Tryz.zeroValue158
  t173 := Tryz.underlying160
  a173 := Tryz.isAgg160
  z173 := Tryz.sizeOf160
  v173 := Tryz.zeroValue160
  t212 := Tryz.underlying175
  a212 := Tryz.isAgg175
  z212 := Tryz.sizeOf175
  v212 := Tryz.zeroValue175
  t213 := Tryz.underlying176
  a213 := Tryz.isAgg176
  z213 := Tryz.sizeOf176
  t232 := Tryz.underlying189
  a232 := Tryz.isAgg189
  z232 := Tryz.sizeOf189
  v232 := Tryz.zeroValue189
  t233 := Tryz.underlying190
  a233 := Tryz.isAgg190
  z233 := Tryz.sizeOf190
  v233 := Tryz.zeroValue190
  g17 := by kernel_rfl
  g18 := by kernel_rfl
  g19 := by kernel_rfl }
open Go.RowKit Go.Sort Go.Lib in
/-- THE ROAD WITHOUT THE TABLE: 0 <= i < 100: NO PREMISE ON THE WORLD, AND THE WORLD IS AS IT WAS: a row that keeps its argument in that range need list no table ('laid = []'). (LAID: no walk: one application.) -/
theorem Tryz.strconv_Itoa_small (i : Nat) (hi : i < 100) (w : World) :
    Calls Tryz.prog 44 #[.int .i64 i] w fun e w' => e = .returned (.string ⟨(Lib.decDigits i).toArray⟩) ∧ w' = w := Any.strconv_Itoa_small Tryz.lays171 i hi w
def Tryz.lays145_ren : Go.Shelf.Ren := ⟨fun | 145 => 70 | 220 => 97 | 219 => 111 | 217 => 125 | 225 => 126 | 224 => 127 | 267 => 128 | 266 => 137 | 314 => 138 | n => n, fun | 9 => 9 | 4 => 4 | 59 => 106 | 3 => 3 | 5 => 5 | 46 => 100 | 146 => 182 | 51 => 128 | n => n, fun | 1 => 1 | n => n⟩
theorem Tryz.lays145 : Go.Proofs.Lays.n145 Tryz.prog Tryz.lays145_ren := {
  mixed := by kernel_rfl
  f145 := Tryz.func70.trans (congrArg some (by kernel_rfl))
  f217 := Tryz.func125.trans (congrArg some (by kernel_rfl))
  f219 := Tryz.func111.trans (congrArg some (by kernel_rfl))
  f220 := Tryz.func97.trans (congrArg some (by kernel_rfl))
  f224 := Tryz.func127.trans (congrArg some (by kernel_rfl))
  f225 := Tryz.func126.trans (congrArg some (by kernel_rfl))
  f266 := Tryz.func137.trans (congrArg some (by kernel_rfl))
  f267 := Tryz.func128.trans (congrArg some (by kernel_rfl))
  f314 := Tryz.func138.trans (congrArg some (by kernel_rfl))
  t3 := Tryz.underlying3
  a3 := Tryz.isAgg3
  z3 := Tryz.sizeOf3
  v3 := Tryz.zeroValue3
  t4 := Tryz.underlying4
  a4 := Tryz.isAgg4
  z4 := Tryz.sizeOf4
  v4 := Tryz.zeroValue4
  t5 := Tryz.underlying5
  a5 := Tryz.isAgg5
  z5 := Tryz.sizeOf5
  v5 := Tryz.zeroValue5
  t9 := Tryz.underlying9
  a9 := Tryz.isAgg9
  z9 := Tryz.sizeOf9
  v9 := Tryz.zeroValue9
  t46 := Tryz.underlying100
  a46 := Tryz.isAgg100
  z46 := Tryz.sizeOf100
  v46 := Tryz.zeroValue100
  t51 := Tryz.underlying128
  a51 := Tryz.isAgg128
  z51 := Tryz.sizeOf128
  v51 := Tryz.zeroValue128
  t59 := Tryz.underlying106
  a59 := Tryz.isAgg106
  z59 := Tryz.sizeOf106
  v59 := Tryz.zeroValue106
  t146 := Tryz.underlying182
  a146 := Tryz.isAgg182
  z146 := Tryz.sizeOf182
  v146 := Tryz.zeroValue182
  g1 := by kernel_rfl }
open Go.RowKit Go.Lib in
/-- strings.Cut: "Cut slices s around the first instance of sep, returning the text before and after sep. The found result reports whether sep appears in s. If sep does not appear in s, cut returns s, "", false.": IT RETURNS 'Lib.cut s sep'; the world is as it was but for the count of draws. (LAID: no walk: one application.) -/
theorem Tryz.strings_Cut (s sep : ByteArray) (m : Int) (w : World) (hs : s.size < 4294967281) (hm : w.cell? ⟨1, 0, none⟩ = some (.int .i64 m)) :
    Calls Tryz.prog 70 #[.string s, .string sep] w fun e w' => e = .returned (.tuple #[.string ⟨(Lib.cut s.data.toList sep.data.toList).1.toArray⟩, .string ⟨(Lib.cut s.data.toList sep.data.toList).2.1.toArray⟩, .bool (Lib.cut s.data.toList sep.data.toList).2.2]) ∧ ∃ n, w' = w.drewN n := Any.strings_Cut Tryz.lays145 s sep m w hs hm
def Tryz.lays146_ren : Go.Shelf.Ren := ⟨fun | 146 => 40 | 221 => 68 | 268 => 94 | 138 => 95 | 143 => 96 | 195 => 108 | 197 => 109 | 218 => 110 | 219 => 111 | 260 => 124 | 217 => 125 | 225 => 126 | 224 => 127 | 267 => 128 | 266 => 137 | 314 => 138 | n => n, fun | 9 => 9 | 31 => 75 | 3 => 3 | 4 => 4 | 0 => 0 | 105 => 149 | 21 => 21 | 5 => 5 | 46 => 100 | 119 => 178 | 139 => 181 | 138 => 180 | 146 => 182 | 51 => 128 | n => n, fun | 1 => 1 | 3 => 5 | 4 => 6 | n => n⟩
theorem Tryz.lays146 : Go.Proofs.Lays.n146 Tryz.prog Tryz.lays146_ren := {
  mixed := by kernel_rfl
  f138 := Tryz.func95.trans (congrArg some (by kernel_rfl))
  f143 := Tryz.func96.trans (congrArg some (by kernel_rfl))
  f146 := Tryz.func40.trans (congrArg some (by kernel_rfl))
  f195 := Tryz.func108.trans (congrArg some (by kernel_rfl))
  f197 := Tryz.func109.trans (congrArg some (by kernel_rfl))
  f217 := Tryz.func125.trans (congrArg some (by kernel_rfl))
  f218 := Tryz.func110.trans (congrArg some (by kernel_rfl))
  f219 := Tryz.func111.trans (congrArg some (by kernel_rfl))
  f221 := Tryz.func68.trans (congrArg some (by kernel_rfl))
  f224 := Tryz.func127.trans (congrArg some (by kernel_rfl))
  f225 := Tryz.func126.trans (congrArg some (by kernel_rfl))
  f260 := Tryz.func124.trans (congrArg some (by kernel_rfl))
  f266 := Tryz.func137.trans (congrArg some (by kernel_rfl))
  f267 := Tryz.func128.trans (congrArg some (by kernel_rfl))
  f268 := Tryz.func94.trans (congrArg some (by kernel_rfl))
  f314 := Tryz.func138.trans (congrArg some (by kernel_rfl))
  t0 := Tryz.underlying0
  a0 := Tryz.isAgg0
  z0 := Tryz.sizeOf0
  v0 := Tryz.zeroValue0
  t3 := Tryz.underlying3
  a3 := Tryz.isAgg3
  z3 := Tryz.sizeOf3
  v3 := Tryz.zeroValue3
  t4 := Tryz.underlying4
  a4 := Tryz.isAgg4
  z4 := Tryz.sizeOf4
  v4 := Tryz.zeroValue4
  t5 := Tryz.underlying5
  a5 := Tryz.isAgg5
  z5 := Tryz.sizeOf5
  v5 := Tryz.zeroValue5
  t9 := Tryz.underlying9
  a9 := Tryz.isAgg9
  z9 := Tryz.sizeOf9
  v9 := Tryz.zeroValue9
  t21 := Tryz.underlying21
  a21 := Tryz.isAgg21
  z21 := Tryz.sizeOf21
  v21 := Tryz.zeroValue21
  t31 := Tryz.underlying75
  a31 := Tryz.isAgg75
  z31 := Tryz.sizeOf75
  v31 := Tryz.zeroValue75
  t46 := Tryz.underlying100
  a46 := Tryz.isAgg100
  z46 := Tryz.sizeOf100
  v46 := Tryz.zeroValue100
  t51 := Tryz.underlying128
  a51 := Tryz.isAgg128
  z51 := Tryz.sizeOf128
  v51 := Tryz.zeroValue128
  t105 := Tryz.underlying149
  a105 := Tryz.isAgg149
  z105 := Tryz.sizeOf149
  v105 := Tryz.zeroValue149
  t119 := Tryz.underlying178
  a119 := Tryz.isAgg178
  z119 := Tryz.sizeOf178
  t138 := Tryz.underlying180
  a138 := Tryz.isAgg180
  z138 := Tryz.sizeOf180
  v138 := Tryz.zeroValue180
  t139 := Tryz.underlying181
  a139 := Tryz.isAgg181
  z139 := Tryz.sizeOf181
  v139 := Tryz.zeroValue181
  t146 := Tryz.underlying182
  a146 := Tryz.isAgg182
  z146 := Tryz.sizeOf182
  v146 := Tryz.zeroValue182
  g1 := by kernel_rfl
  g3 := by kernel_rfl
  g4 := by kernel_rfl }
open Go.RowKit Go.Lib in
/-- strings.Split. (LAID: no walk: one application.) -/
theorem Tryz.strings_Split (s sep : ByteArray) (m : Int) (w : World) (hs : s.size < 4294967281) (hm : w.cell? ⟨1, 0, none⟩ = some (.int .i64 m)) (h1 : 1 ≤ sep.size) :
    Calls Tryz.prog 40 #[.string s, .string sep] w fun e w' =>
      e = .returned (.slice (some ⟨w.heap.size, 0, none⟩) (Lib.countB s sep + 1) (Lib.countB s sep + 1)) ∧ w' = w.alloc (.cells ((Lib.splitB sep 0 (Lib.countB s sep) s).map Value.string).toArray 9) := Any.strings_Split Tryz.lays146 (by kernel_rfl) s sep m w hs hm h1
end Go.Proofs
