/-
 DERIVED: THE SHELF's CONTRACTS AT THIS DUMP, IN PLAIN WORDS (tools/lay-plain.mjs out of 'TryzShelf1.lean', which tools/lay-shelf.mjs wrote): THE SAME DECLARATIONS UNDER THE SAME NAMES: 'import', 'namespace', 'open', 'def', 'theorem' AND NOTHING ELSE: no command of the shelf's: FOR A HAND-IN. Each laying: the table of numbers ('.._ren') and one theorem, a field a fact of the dump's own or the kernel's comparison; each contract: ONE APPLICATION.
-/
import Derived.Shelf.Strings.Builder1
import Derived.Shelf.Strings.Trim
import Derived.Shelf.Small.Utf8
import Derived.Shelf.Small.Bits
import Derived.Shelf.Small.Strs
import Derived.Shelf.Small.Wraps
import Derived.Shelf.Strings.BuilderF
import Derived.Shelf.Strings.BuilderK
import Derived.Shelf.Strconv.Atoi
import Derived.Shelf.Strconv.Itoa0
import Derived.Shelf.Strconv.Itoa1
import Derived.Shelf.LaysM
import Derived.Shelf.Strconv.Itoa2
import Derived.Shelf.Strconv.Itoa3
import Derived.Shelf.Strconv.AtoiErrFast
import Derived.Shelf.Strconv.ParseIntEmpty
import Derived.Shelf.Strconv.AtoiFail
import Derived.Shelf.Strconv.Clone
import Derived.Shelf.Strconv.SyntaxError
import Derived.Shelf.LaysC
import Derived.Shelf.Strconv.ToError
import Derived.Shelf.Strconv.Lower
import Derived.Shelf.Strconv.ParseUint10
import Derived.Shelf.Strconv.ParseUint10Empty
import Derived.Shelf.Strconv.ParseUint10Any
import Derived.Shelf.Strconv.ParseInt10
import Derived.Shelf.Strconv.AtoiLong
import Derived.Shelf.Strconv.AtoiInnerAll
import Derived.Shelf.Strconv.RangeError
import Derived.Shelf.Strconv.ToErrorRange
import Derived.Shelf.Strconv.AtoiAll
import Derived.Shelf.Strconv.ErrVarAll
import Derived.Shelf.Strings.Search1
import Derived.Shelf.Strings.Prefix
import Derived.Shelf.Unicode.Decode
import Derived.Shelf.Strings.Runes
import Derived.Shelf.Strings.AsciiSet
import Derived.Shelf.Unicode.DecodeSlow
import Derived.Shelf.Unicode.DecodeAny
import Derived.Shelf.Unicode.DecodeLast
import Derived.Ground.Names2Prog
import Derived.Shelf.Slices.SearchI
import Derived.Ground.SlgmProg
import Derived.Shelf.SortM.Plain
import Derived.Shelf.SortM.SortNone
import Derived.Test.YtgmghopcppniaaaGreatDoorProg
namespace Go.Proofs
open Go.Shelf
def Tryz.lays103_ren : Go.Shelf.Ren := ⟨fun | 103 => 129 | 210 => 159 | 206 => 194 | n => n, fun | 9 => 9 | 4 => 4 | 24 => 173 | 3 => 3 | n => n, fun | n => n⟩
theorem Tryz.lays103 : Go.Proofs.Lays.n103 Tryz.prog Tryz.lays103_ren := {
 mixed := by kernel_rfl
 f103 := Tryz.func129.trans (congrArg some (by kernel_rfl))
 f206 := Tryz.func194.trans (congrArg some (by kernel_rfl))
 f210 := Tryz.func159.trans (congrArg some (by kernel_rfl))
 t3 := Tryz.underlying3
 a3 := Tryz.isAgg3
 z3 := Tryz.sizeOf3
 v3 := Tryz.zeroValue3
 t4 := Tryz.underlying4
 a4 := Tryz.isAgg4
 z4 := Tryz.sizeOf4
 v4 := Tryz.zeroValue4
 t9 := Tryz.underlying9
 a9 := Tryz.isAgg9
 z9 := Tryz.sizeOf9
 v9 := Tryz.zeroValue9
 t24 := Tryz.underlying173
 a24 := Tryz.isAgg173
 z24 := Tryz.sizeOf173
 v24 := Tryz.zeroValue173 }
open Go.RowKit in
/-- strings.CutPrefix: "CutPrefix returns s without the provided leading prefix string and reports whether it found the prefix. If s doesn't start with prefix, CutPrefix returns s, false. If prefix is the empty string, CutPrefix returns s, true.": IT RETURNS '(Lib.trimPrefix s p, Lib.hasPrefix s p)'; the world is as it was. (LAID: no walk: one application.) -/
theorem Tryz.strings_CutPrefix (s p : ByteArray) (w : World) :
  Calls Tryz.prog 129 #[.string s, .string p] w fun e w' => e = .returned (.tuple #[.string ⟨(Lib.trimPrefix s.data.toList p.data.toList).toArray⟩, .bool (Lib.hasPrefix s.data.toList p.data.toList)]) ∧ w' = w := Any.strings_CutPrefix Tryz.lays103 s p w
def Tryz.laysM171_ren : Go.Shelf.Ren := ⟨fun | 171 => 131 | 243 => 162 | 246 => 200 | 283 => 224 | 284 => 225 | 285 => 226 | 286 => 227 | 129 => 180 | 317 => 238 | 318 => 239 | 319 => 240 | 320 => 241 | 337 => 247 | 338 => 248 | n => n, fun | 3 => 3 | 9 => 9 | 2 => 2 | 4 => 4 | 171 => 260 | 0 => 0 | 53 => 190 | 37 => 33 | 5 => 5 | 173 => 262 | 212 => 276 | 51 => 168 | 20 => 20 | 213 => 277 | 46 => 179 | 232 => 286 | 233 => 287 | n => n, fun | 17 => 2 | 18 => 6 | 19 => 7 | n => n⟩
theorem Tryz.laysM171 : Go.Proofs.LaysM.n171 Tryz.prog Tryz.laysM171_ren := {
 mixed := by kernel_rfl
 f129 := Tryz.func180.trans (congrArg some (by kernel_rfl))
 f171 := Tryz.func131.trans (congrArg some (by kernel_rfl))
 f243 := Tryz.func162.trans (congrArg some (by kernel_rfl))
 f246 := Tryz.func200.trans (congrArg some (by kernel_rfl))
 f283 := Tryz.func224.trans (congrArg some (by kernel_rfl))
 f284 := Tryz.func225.trans (congrArg some (by kernel_rfl))
 f285 := Tryz.func226.trans (congrArg some (by kernel_rfl))
 f286 := Tryz.func227.trans (congrArg some (by kernel_rfl))
 f317 := Tryz.func238.trans (congrArg some (by kernel_rfl))
 f318 := Tryz.func239.trans (congrArg some (by kernel_rfl))
 f319 := Tryz.func240.trans (congrArg some (by kernel_rfl))
 f320 := Tryz.func241.trans (congrArg some (by kernel_rfl))
 f337 := Tryz.func247.trans (congrArg some (by kernel_rfl))
 f338 := Tryz.func248.trans (congrArg some (by kernel_rfl))
 t0 := Tryz.underlying0
 a0 := Tryz.isAgg0
 z0 := Tryz.sizeOf0
 v0 := Tryz.zeroValue0
 t2 := Tryz.underlying2
 a2 := Tryz.isAgg2
 z2 := Tryz.sizeOf2
 v2 := Tryz.zeroValue2
 t3 := Tryz.underlying3
 a3 := Tryz.isAgg3
 z3 := Tryz.sizeOf3
 v3 := Tryz.zeroValue3
 t4 := Tryz.underlying4
 a4 := Tryz.isAgg4
 z4 := Tryz.sizeOf4
 v4 := Tryz.zeroValue4
 t5 := Tryz.underlying5
 a5 := Tryz.isAgg5
 z5 := Tryz.sizeOf5
 v5 := Tryz.zeroValue5
 t9 := Tryz.underlying9
 a9 := Tryz.isAgg9
 z9 := Tryz.sizeOf9
 v9 := Tryz.zeroValue9
 t20 := Tryz.underlying20
 a20 := Tryz.isAgg20
 z20 := Tryz.sizeOf20
 v20 := Tryz.zeroValue20
 t37 := Tryz.underlying33
 a37 := Tryz.isAgg33
 z37 := Tryz.sizeOf33
 v37 := Tryz.zeroValue33
 t46 := Tryz.underlying179
 a46 := Tryz.isAgg179
 z46 := Tryz.sizeOf179
 v46 := Tryz.zeroValue179
 t51 := Tryz.underlying168
 a51 := Tryz.isAgg168
 z51 := Tryz.sizeOf168
 v51 := Tryz.zeroValue168
 t53 := Tryz.underlying190
 a53 := Tryz.isAgg190
 z53 := Tryz.sizeOf190
 v53 := Tryz.zeroValue190
 t171 := Tryz.underlying260
 a171 := Tryz.isAgg260
 z171 := Tryz.sizeOf260
 v171 := Tryz.zeroValue260
 t173 := Tryz.underlying262
 a173 := Tryz.isAgg262
 z173 := Tryz.sizeOf262
 v173 := Tryz.zeroValue262
 t212 := Tryz.underlying276
 a212 := Tryz.isAgg276
 z212 := Tryz.sizeOf276
 v212 := Tryz.zeroValue276
 t213 := Tryz.underlying277
 a213 := Tryz.isAgg277
 z213 := Tryz.sizeOf277
 t232 := Tryz.underlying286
 a232 := Tryz.isAgg286
 z232 := Tryz.sizeOf286
 v232 := Tryz.zeroValue286
 t233 := Tryz.underlying287
 a233 := Tryz.isAgg287
 z233 := Tryz.sizeOf287
 v233 := Tryz.zeroValue287
 g17 := by kernel_rfl
 g18 := by kernel_rfl
 g19 := by kernel_rfl
 i0 := by kernel_rfl
 i2 := by kernel_rfl
 i3 := by kernel_rfl
 i4 := by kernel_rfl
 i5 := by kernel_rfl
 i9 := by kernel_rfl
 i20 := by kernel_rfl
 i37 := by kernel_rfl
 i46 := by kernel_rfl
 i51 := by kernel_rfl
 i53 := by kernel_rfl
 i171 := by kernel_rfl
 i173 := by kernel_rfl
 i212 := by kernel_rfl
 i232 := by kernel_rfl
 i233 := by kernel_rfl
 m17 := by kernel_rfl
 m18 := by kernel_rfl
 m19 := by kernel_rfl }
open Go.RowKit Go.Sort Go.Lib in
/-- strconv.Itoa: "Itoa is equivalent to FormatInt(int64(i), 10).": i's DECIMAL NUMERAL ('Lib.itoa': a '-' where i is negative, then the digits), FOR EVERY int. The world behind the call: the world before it, new blocks behind the heap (the library's 'var a [24]byte'), draws. (LAID: no walk: one application.) -/
theorem Tryz.strconv_Itoa (n : Int) (h0 : -9223372036854775808 ≤ n) (h1 : n ≤ 9223372036854775807) (w : World) (htab : Lib.TabIs Tryz.prog w "internal/strconv.uint64pow10" .u64 Lib.pow10Tab) :
  Calls Tryz.prog 131 #[.int .i64 n] w fun e w' => e = .returned (.string ⟨(Lib.itoa n).toArray⟩) ∧ ∃ k os, w' = grow (w.drewN k) os := Any.strconv_Itoa Tryz.laysM171 n h0 h1 w htab
def Tryz.laysC172_ren : Go.Shelf.Ren := ⟨fun | 172 => 130 | 244 => 160 | 245 => 161 | 247 => 195 | 279 => 196 | 280 => 197 | 281 => 198 | 282 => 199 | 287 => 221 | 316 => 222 | 171 => 131 | 205 => 223 | 321 => 236 | 322 => 237 | 243 => 162 | 246 => 200 | 283 => 224 | 284 => 225 | 285 => 226 | 286 => 227 | 129 => 180 | 317 => 238 | 318 => 239 | 319 => 240 | 320 => 241 | 337 => 247 | 338 => 248 | n => n, fun | 9 => 9 | 3 => 3 | 75 => 110 | 76 => 111 | 4 => 4 | 5 => 5 | 167 => 231 | 37 => 33 | 0 => 0 | 85 => 232 | 2 => 2 | 168 => 234 | 53 => 190 | 175 => 255 | 46 => 179 | 210 => 258 | 127 => 165 | 145 => 273 | 143 => 271 | 21 => 21 | 171 => 260 | 173 => 262 | 212 => 276 | 51 => 168 | 20 => 20 | 213 => 277 | 232 => 286 | 233 => 287 | 80 => 113 | n => n, fun | 15 => 0 | 16 => 1 | 17 => 2 | 18 => 6 | 19 => 7 | n => n⟩
theorem Tryz.laysC172 : Go.Proofs.LaysC.n172 Tryz.prog Tryz.laysC172_ren := {
 mixed := by kernel_rfl
 f129 := Tryz.func180.trans (congrArg some (by kernel_rfl))
 f171 := Tryz.func131.trans (congrArg some (by kernel_rfl))
 f172 := Tryz.func130.trans (congrArg some (by kernel_rfl))
 f205 := Tryz.func223.trans (congrArg some (by kernel_rfl))
 f243 := Tryz.func162.trans (congrArg some (by kernel_rfl))
 f244 := Tryz.func160.trans (congrArg some (by kernel_rfl))
 f245 := Tryz.func161.trans (congrArg some (by kernel_rfl))
 f246 := Tryz.func200.trans (congrArg some (by kernel_rfl))
 f247 := Tryz.func195.trans (congrArg some (by kernel_rfl))
 f279 := Tryz.func196.trans (congrArg some (by kernel_rfl))
 f280 := Tryz.func197.trans (congrArg some (by kernel_rfl))
 f281 := Tryz.func198.trans (congrArg some (by kernel_rfl))
 f282 := Tryz.func199.trans (congrArg some (by kernel_rfl))
 f283 := Tryz.func224.trans (congrArg some (by kernel_rfl))
 f284 := Tryz.func225.trans (congrArg some (by kernel_rfl))
 f285 := Tryz.func226.trans (congrArg some (by kernel_rfl))
 f286 := Tryz.func227.trans (congrArg some (by kernel_rfl))
 f287 := Tryz.func221.trans (congrArg some (by kernel_rfl))
 f316 := Tryz.func222.trans (congrArg some (by kernel_rfl))
 f317 := Tryz.func238.trans (congrArg some (by kernel_rfl))
 f318 := Tryz.func239.trans (congrArg some (by kernel_rfl))
 f319 := Tryz.func240.trans (congrArg some (by kernel_rfl))
 f320 := Tryz.func241.trans (congrArg some (by kernel_rfl))
 f321 := Tryz.func236.trans (congrArg some (by kernel_rfl))
 f322 := Tryz.func237.trans (congrArg some (by kernel_rfl))
 f337 := Tryz.func247.trans (congrArg some (by kernel_rfl))
 f338 := Tryz.func248.trans (congrArg some (by kernel_rfl))
 t0 := Tryz.underlying0
 a0 := Tryz.isAgg0
 z0 := Tryz.sizeOf0
 v0 := Tryz.zeroValue0
 t2 := Tryz.underlying2
 a2 := Tryz.isAgg2
 z2 := Tryz.sizeOf2
 v2 := Tryz.zeroValue2
 t3 := Tryz.underlying3
 a3 := Tryz.isAgg3
 z3 := Tryz.sizeOf3
 v3 := Tryz.zeroValue3
 t4 := Tryz.underlying4
 a4 := Tryz.isAgg4
 z4 := Tryz.sizeOf4
 v4 := Tryz.zeroValue4
 t5 := Tryz.underlying5
 a5 := Tryz.isAgg5
 z5 := Tryz.sizeOf5
 v5 := Tryz.zeroValue5
 t9 := Tryz.underlying9
 a9 := Tryz.isAgg9
 z9 := Tryz.sizeOf9
 v9 := Tryz.zeroValue9
 t20 := Tryz.underlying20
 a20 := Tryz.isAgg20
 z20 := Tryz.sizeOf20
 v20 := Tryz.zeroValue20
 t21 := Tryz.underlying21
 a21 := Tryz.isAgg21
 z21 := Tryz.sizeOf21
 v21 := Tryz.zeroValue21
 t37 := Tryz.underlying33
 a37 := Tryz.isAgg33
 z37 := Tryz.sizeOf33
 v37 := Tryz.zeroValue33
 t46 := Tryz.underlying179
 a46 := Tryz.isAgg179
 z46 := Tryz.sizeOf179
 v46 := Tryz.zeroValue179
 t51 := Tryz.underlying168
 a51 := Tryz.isAgg168
 z51 := Tryz.sizeOf168
 v51 := Tryz.zeroValue168
 t53 := Tryz.underlying190
 a53 := Tryz.isAgg190
 z53 := Tryz.sizeOf190
 v53 := Tryz.zeroValue190
 t75 := Tryz.underlying110
 a75 := Tryz.isAgg110
 z75 := Tryz.sizeOf110
 v75 := Tryz.zeroValue110
 t76 := Tryz.underlying111
 a76 := Tryz.isAgg111
 z76 := Tryz.sizeOf111
 v76 := Tryz.zeroValue111
 t85 := Tryz.underlying232
 a85 := Tryz.isAgg232
 z85 := Tryz.sizeOf232
 v85 := Tryz.zeroValue232
 t127 := Tryz.underlying165
 a127 := Tryz.isAgg165
 z127 := Tryz.sizeOf165
 v127 := Tryz.zeroValue165
 t143 := Tryz.underlying271
 a143 := Tryz.isAgg271
 z143 := Tryz.sizeOf271
 v143 := Tryz.zeroValue271
 t145 := Tryz.underlying273
 a145 := Tryz.isAgg273
 z145 := Tryz.sizeOf273
 v145 := Tryz.zeroValue273
 t167 := Tryz.underlying231
 a167 := Tryz.isAgg231
 z167 := Tryz.sizeOf231
 v167 := Tryz.zeroValue231
 t168 := Tryz.underlying234
 a168 := Tryz.isAgg234
 z168 := Tryz.sizeOf234
 v168 := Tryz.zeroValue234
 t171 := Tryz.underlying260
 a171 := Tryz.isAgg260
 z171 := Tryz.sizeOf260
 v171 := Tryz.zeroValue260
 t173 := Tryz.underlying262
 a173 := Tryz.isAgg262
 z173 := Tryz.sizeOf262
 v173 := Tryz.zeroValue262
 t175 := Tryz.underlying255
 a175 := Tryz.isAgg255
 z175 := Tryz.sizeOf255
 v175 := Tryz.zeroValue255
 t210 := Tryz.underlying258
 a210 := Tryz.isAgg258
 z210 := Tryz.sizeOf258
 v210 := Tryz.zeroValue258
 t212 := Tryz.underlying276
 a212 := Tryz.isAgg276
 z212 := Tryz.sizeOf276
 v212 := Tryz.zeroValue276
 t213 := Tryz.underlying277
 a213 := Tryz.isAgg277
 z213 := Tryz.sizeOf277
 t232 := Tryz.underlying286
 a232 := Tryz.isAgg286
 z232 := Tryz.sizeOf286
 v232 := Tryz.zeroValue286
 t233 := Tryz.underlying287
 a233 := Tryz.isAgg287
 z233 := Tryz.sizeOf287
 v233 := Tryz.zeroValue287
 g15 := by kernel_rfl
 g16 := by kernel_rfl
 g17 := by kernel_rfl
 g18 := by kernel_rfl
 g19 := by kernel_rfl
 t80 := Tryz.underlying113
 a80 := Tryz.isAgg113
 z80 := Tryz.sizeOf113
 v80 := Tryz.zeroValue113
 i0 := by kernel_rfl
 i2 := by kernel_rfl
 i3 := by kernel_rfl
 i4 := by kernel_rfl
 i5 := by kernel_rfl
 i9 := by kernel_rfl
 i20 := by kernel_rfl
 i21 := by kernel_rfl
 i37 := by kernel_rfl
 i46 := by kernel_rfl
 i51 := by kernel_rfl
 i53 := by kernel_rfl
 i75 := by kernel_rfl
 i76 := by kernel_rfl
 i80 := by kernel_rfl
 i85 := by kernel_rfl
 i127 := by kernel_rfl
 i143 := by kernel_rfl
 i145 := by kernel_rfl
 i167 := by kernel_rfl
 i168 := by kernel_rfl
 i171 := by kernel_rfl
 i173 := by kernel_rfl
 i175 := by kernel_rfl
 i210 := by kernel_rfl
 i212 := by kernel_rfl
 i232 := by kernel_rfl
 i233 := by kernel_rfl
 m15 := by kernel_rfl
 m16 := by kernel_rfl
 m17 := by kernel_rfl
 m18 := by kernel_rfl
 m19 := by kernel_rfl
 c0 := by kernel_rfl
 c2 := by kernel_rfl
 c3 := by kernel_rfl
 c4 := by kernel_rfl
 c5 := by kernel_rfl
 c9 := by kernel_rfl
 c20 := by kernel_rfl
 c21 := by kernel_rfl
 c37 := by kernel_rfl
 c46 := by kernel_rfl
 c51 := by kernel_rfl
 c53 := by kernel_rfl
 c75 := by kernel_rfl
 c76 := by kernel_rfl
 c80 := by kernel_rfl
 c85 := by kernel_rfl
 c127 := by kernel_rfl
 c143 := by kernel_rfl
 c145 := by kernel_rfl
 c167 := by kernel_rfl
 c168 := by kernel_rfl
 c171 := by kernel_rfl
 c173 := by kernel_rfl
 c175 := by kernel_rfl
 c210 := by kernel_rfl
 c212 := by kernel_rfl
 c213 := by kernel_rfl
 c232 := by kernel_rfl
 c233 := by kernel_rfl }
open Go.RowKit in
/-- strconv.Atoi, AT EVERY STRING THAT SPELLS AN int ('Lib.atoiAll .. = .ok v'; of whatever length: leading zeros count): v, AND NO ERROR. The world: as it was, or with the one new row that '[]byte(..)' lays. (LAID: no walk: one application.) -/
theorem Tryz.strconv_Atoi_ok (s : ByteArray) (hmax : s.size ≤ 9223372036854775806) (v : Int) (h : Lib.atoiAll s.data.toList = .ok v) (w : World) :
  Calls Tryz.prog 130 #[.string s] w fun e w' => e = .returned (.tuple #[.int .i64 v, .nilIface]) ∧ (w' = w ∨ ∃ t, w' = Lib.bytesWorld w 5 t) := Any.strconv_Atoi_ok Tryz.laysC172 s hmax v h w
open Go.RowKit in
/-- strconv.Atoi, AT EVERY STRING THAT IS NO DECIMAL NUMERAL ('.syntax'): 0, AND AN ERROR THAT IS NOT nil: a *NumError in a new block N: {Func: "Atoi", Num: s's bytes, Err: what the variable ErrSyntax holds}. Of what was there nothing has turned. (LAID: no walk: one application.) -/
theorem Tryz.strconv_Atoi_syntax (s : ByteArray) (hlim : s.size ≤ 281474976710656) (h : Lib.atoiAll s.data.toList = Lib.atoiAll []) (ev : Value) (w : World) (hv : w.cell? ⟨0, 0, none⟩ = some ev) (hev : ev = .nilIface ∨ ∃ te pe, ev = .iface te pe) :
  Calls Tryz.prog 130 #[.string s] w fun e w' => ∃ N, e = .returned (.tuple #[.int .i64 (0), .iface 234 (.pointer (some ⟨N, 0, none⟩))]) ∧ w.heap.size ≤ N ∧ w'.heap[N]? = some (.cells #[.string ⟨#[65, 116, 111, 105]⟩, .string s, ev] 258 (0, 0)) ∧ Below w.heap.size w w' := Any.strconv_Atoi_syntax Tryz.laysC172 s hlim h ev w hv hev
open Go.RowKit in
/-- strconv.Atoi, AT EVERY NUMERAL THAT NO int HOLDS ('.range'): THE GREATEST OR THE LEAST int, BY THE SIGN ('Lib.atoiSat'), AND AN ERROR THAT IS NOT nil: a *NumError in a new block N: {Func: "Atoi", Num: s's bytes, Err: what the variable ErrRange holds}. Of what was there nothing has turned. (LAID: no walk: one application.) -/
theorem Tryz.strconv_Atoi_range (s : ByteArray) (hlim : s.size ≤ 281474976710656) (h : Lib.atoiAll s.data.toList = .range) (ev : Value) (w : World) (hv : w.cell? ⟨1, 0, none⟩ = some ev) (hev : ev = .nilIface ∨ ∃ te pe, ev = .iface te pe) :
  Calls Tryz.prog 130 #[.string s] w fun e w' => ∃ N, e = .returned (.tuple #[.int .i64 (Lib.atoiSat s.data.toList), .iface 234 (.pointer (some ⟨N, 0, none⟩))]) ∧ w.heap.size ≤ N ∧ w'.heap[N]? = some (.cells #[.string ⟨#[65, 116, 111, 105]⟩, .string s, ev] 258 (0, 0)) ∧ Below w.heap.size w w' := Any.strconv_Atoi_range Tryz.laysC172 s hlim h ev w hv hev
end Go.Proofs
