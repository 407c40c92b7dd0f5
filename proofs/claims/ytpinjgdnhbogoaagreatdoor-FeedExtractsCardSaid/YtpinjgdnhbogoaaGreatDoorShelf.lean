/-
  DERIVED: THE SHELF's CONTRACTS AT THIS DUMP, IN PLAIN WORDS (tools/lay-plain.mjs out of 'TryzShelf1.lean', which tools/lay-shelf.mjs wrote): THE SAME DECLARATIONS UNDER THE SAME NAMES: 'import', 'namespace', 'open', 'def', 'theorem' AND NOTHING ELSE: no command of the shelf's: FOR A HAND-IN. Each laying: the table of numbers ('.._ren') and one theorem, a field a fact of the dump's own or the kernel's comparison; each contract: ONE APPLICATION.
-/
import Derived.Shelf.Strings.Builder1
import Derived.Shelf.Strings.Builder2
import Derived.Shelf.Strings.OnBuilder
import Derived.Shelf.Strings.Trim
import Derived.Shelf.Small.Utf8
import Derived.Shelf.Small.Strs
import Derived.Shelf.Small.Wraps
import Derived.Shelf.Strings.BuilderF
import Derived.Shelf.Strings.BuilderK
import Derived.Shelf.Strings.Builder2Cap
import Derived.Shelf.Strconv.Itoa0
import Derived.Shelf.LaysM
import Derived.Shelf.Strconv.Clone
import Derived.Shelf.Strconv.SyntaxError
import Derived.Shelf.LaysC
import Derived.Shelf.Strconv.ToError
import Derived.Shelf.Strconv.Lower
import Derived.Shelf.Strconv.ParseUint10
import Derived.Shelf.Strconv.RangeError
import Derived.Shelf.Strconv.ToErrorRange
import Derived.Shelf.Strconv.ParseUintEmpty
import Derived.Shelf.Strconv.ParseUint10b64
import Derived.Shelf.Strconv.ParseUint10b32
import Derived.Shelf.Strconv.ParseUint10b16
import Derived.Shelf.Strconv.ParseUint10b8
import Derived.Shelf.Strconv.ParseUint10At
import Derived.Ground.MpProg
import Derived.Shelf.Pu.ParseUintPublic10
import Derived.Shelf.Pu.ErrVarParseUint
import Derived.Shelf.Strings.Search1
import Derived.Shelf.Strings.Search2
import Derived.Shelf.Strings.Search3
import Derived.Shelf.Strings.Cut
import Derived.Shelf.Strings.Count
import Derived.Shelf.Strings.Shaped
import Derived.Shelf.Strings.Prefix
import Derived.Shelf.Strings.Split
import Derived.Shelf.Strings.Runes
import Derived.Shelf.Strings.IndexAny
import Derived.Shelf.Strings.AsciiSet
import Derived.Shelf.Strings.IndexAnyAll
import Derived.Shelf.Unicode.DecodeSlow
import Derived.Shelf.Unicode.DecodeAny
import Derived.Shelf.Unicode.DecodeLast
import Derived.Shelf.Strings.FieldsFuncAny
import Derived.Shelf.Strings.FieldsFuncGrows
import Derived.Shelf.Strings.BuilderCap
import Derived.Shelf.Strings.SlTrimAscii
import Derived.Test.YtpinjgdnhbogoaaGreatDoorProg
namespace Go.Proofs
open Go.Shelf
def Tryz.lays170_ren : Go.Shelf.Ren := ⟨fun | 170 => 76 | n => n, fun | 70 => 112 | 3 => 3 | 0 => 0 | 72 => 115 | 37 => 113 | 5 => 5 | n => n, fun | n => n⟩
theorem Tryz.lays170 : Go.Proofs.Lays.n170 Tryz.prog Tryz.lays170_ren := {
  mixed := by kernel_rfl
  f170 := Tryz.func76.trans (congrArg some (by kernel_rfl))
  t0 := Tryz.underlying0
  a0 := Tryz.isAgg0
  z0 := Tryz.sizeOf0
  v0 := Tryz.zeroValue0
  t3 := Tryz.underlying3
  a3 := Tryz.isAgg3
  z3 := Tryz.sizeOf3
  v3 := Tryz.zeroValue3
  t37 := Tryz.underlying113
  a37 := Tryz.isAgg113
  z37 := Tryz.sizeOf113
  v37 := Tryz.zeroValue113
  t70 := Tryz.underlying112
  a70 := Tryz.isAgg112
  z70 := Tryz.sizeOf112
  v70 := Tryz.zeroValue112
  t72 := Tryz.underlying115
  a72 := Tryz.isAgg115
  z72 := Tryz.sizeOf115
  v72 := Tryz.zeroValue115 }
def Tryz.lays169_ren : Go.Shelf.Ren := ⟨fun | 169 => 77 | n => n, fun | 70 => 112 | 9 => 9 | 0 => 0 | 72 => 115 | 37 => 113 | 127 => 148 | 3 => 3 | 5 => 5 | n => n, fun | n => n⟩
theorem Tryz.lays169 : Go.Proofs.Lays.n169 Tryz.prog Tryz.lays169_ren := {
  mixed := by kernel_rfl
  f169 := Tryz.func77.trans (congrArg some (by kernel_rfl))
  t0 := Tryz.underlying0
  a0 := Tryz.isAgg0
  z0 := Tryz.sizeOf0
  v0 := Tryz.zeroValue0
  t3 := Tryz.underlying3
  a3 := Tryz.isAgg3
  z3 := Tryz.sizeOf3
  v3 := Tryz.zeroValue3
  t9 := Tryz.underlying9
  a9 := Tryz.isAgg9
  z9 := Tryz.sizeOf9
  v9 := Tryz.zeroValue9
  t37 := Tryz.underlying113
  a37 := Tryz.isAgg113
  z37 := Tryz.sizeOf113
  v37 := Tryz.zeroValue113
  t70 := Tryz.underlying112
  a70 := Tryz.isAgg112
  z70 := Tryz.sizeOf112
  v70 := Tryz.zeroValue112
  t72 := Tryz.underlying115
  a72 := Tryz.isAgg115
  z72 := Tryz.sizeOf115
  v72 := Tryz.zeroValue115
  t127 := Tryz.underlying148
  a127 := Tryz.isAgg148
  z127 := Tryz.sizeOf148
  v127 := Tryz.zeroValue148 }
theorem Tryz.Builder_Extra_169 : Builder.Extra Tryz.prog Tryz.lays169_ren := {
  sizeBuilder := by kernel_rfl
  liesBuilder := by kernel_rfl
  t5 := Tryz.underlying5
  a5 := Tryz.isAgg5
  z5 := Tryz.sizeOf5
  v5 := Tryz.zeroValue5
  infoByte := by kernel_rfl
  cellsByte := by kernel_rfl
  sizeByte := by kernel_rfl
  neB5 := by decide }
def Tryz.lays156_ren : Go.Shelf.Ren := ⟨fun | 156 => 89 | 165 => 122 | 166 => 81 | 169 => 77 | 240 => 108 | 241 => 155 | 276 => 137 | 277 => 176 | n => n, fun | 31 => 65 | 9 => 9 | 3 => 3 | 4 => 4 | 0 => 0 | 20 => 20 | 72 => 115 | 76 => 123 | 70 => 112 | 37 => 113 | 75 => 122 | 127 => 148 | 164 => 192 | 5 => 5 | 80 => 117 | n => n, fun | n => n⟩
theorem Tryz.lays156 : Go.Proofs.Lays.n156 Tryz.prog Tryz.lays156_ren := {
  mixed := by kernel_rfl
  f156 := Tryz.func89.trans (congrArg some (by kernel_rfl))
  f165 := Tryz.func122.trans (congrArg some (by kernel_rfl))
  f166 := Tryz.func81.trans (congrArg some (by kernel_rfl))
  f169 := Tryz.func77.trans (congrArg some (by kernel_rfl))
  f240 := Tryz.func108.trans (congrArg some (by kernel_rfl))
  f241 := Tryz.func155.trans (congrArg some (by kernel_rfl))
  f276 := Tryz.func137.trans (congrArg some (by kernel_rfl))
  f277 := Tryz.func176.trans (congrArg some (by kernel_rfl))
  t0 := Tryz.underlying0
  a0 := Tryz.isAgg0
  z0 := Tryz.sizeOf0
  v0 := Tryz.zeroValue0
  t3 := Tryz.underlying3
  a3 := Tryz.isAgg3
  z3 := Tryz.sizeOf3
  v3 := Tryz.zeroValue3
  t4 := Tryz.underlying4
  a4 := Tryz.isAgg4
  z4 := Tryz.sizeOf4
  v4 := Tryz.zeroValue4
  t9 := Tryz.underlying9
  a9 := Tryz.isAgg9
  z9 := Tryz.sizeOf9
  v9 := Tryz.zeroValue9
  t20 := Tryz.underlying20
  a20 := Tryz.isAgg20
  z20 := Tryz.sizeOf20
  v20 := Tryz.zeroValue20
  t31 := Tryz.underlying65
  a31 := Tryz.isAgg65
  z31 := Tryz.sizeOf65
  v31 := Tryz.zeroValue65
  t37 := Tryz.underlying113
  a37 := Tryz.isAgg113
  z37 := Tryz.sizeOf113
  v37 := Tryz.zeroValue113
  t70 := Tryz.underlying112
  a70 := Tryz.isAgg112
  z70 := Tryz.sizeOf112
  v70 := Tryz.zeroValue112
  t72 := Tryz.underlying115
  a72 := Tryz.isAgg115
  z72 := Tryz.sizeOf115
  v72 := Tryz.zeroValue115
  t75 := Tryz.underlying122
  a75 := Tryz.isAgg122
  z75 := Tryz.sizeOf122
  v75 := Tryz.zeroValue122
  t76 := Tryz.underlying123
  a76 := Tryz.isAgg123
  z76 := Tryz.sizeOf123
  v76 := Tryz.zeroValue123
  t127 := Tryz.underlying148
  a127 := Tryz.isAgg148
  z127 := Tryz.sizeOf148
  v127 := Tryz.zeroValue148
  t164 := Tryz.underlying192
  a164 := Tryz.isAgg192
  z164 := Tryz.sizeOf192
  v164 := Tryz.zeroValue192 }
theorem Tryz.Builder_Extra_156 : Builder.Extra Tryz.prog Tryz.lays156_ren := {
  sizeBuilder := by kernel_rfl
  liesBuilder := by kernel_rfl
  t5 := Tryz.underlying5
  a5 := Tryz.isAgg5
  z5 := Tryz.sizeOf5
  v5 := Tryz.zeroValue5
  infoByte := by kernel_rfl
  cellsByte := by kernel_rfl
  sizeByte := by kernel_rfl
  neB5 := by decide }
open Go.RowKit in
/-- No element: the empty string; the world is as it was. (Whatever the slice's address and capacity: a nil slice too.) (LAID: no walk: one application.) -/
theorem Tryz.strings_Join_none (a : Option Addr) (c : Nat) (sep : ByteArray) (w : World) :
    Calls Tryz.prog 89 #[.slice a 0 c, .string sep] w fun e w' => e = .returned (.string ⟨#[]⟩) ∧ w' = w := Any.strings_Join_none Tryz.lays156 Tryz.Builder_Extra_156 a c sep w
open Go.RowKit in
/-- strings.Join: "Join concatenates the elements of its first argument to create a single string. The separator string sep is placed between elements in the resulting string.": HOWEVER MANY ELEMENTS. Below the heap's end the world is as it was. (LAID: no walk: one application.) -/
theorem Tryz.strings_Join (bk o c : Nat) (xs : List ByteArray) (sep : ByteArray) (w : World) (hcells : ∀ (j : Nat) x, xs[j]? = some x → w.cell? ⟨bk, o + j, none⟩ = some (.string x)) (hbk : bk < w.heap.size) (hN : xs.length ≤ 140737488355328) (hcap : xs.length ≤ c) (hlen : (Lib.join (xs.map (·.data.toList)) sep.data.toList).length ≤ 140737488355328) :
    Calls Tryz.prog 89 #[.slice (some ⟨bk, o, none⟩) xs.length c, .string sep] w fun e w' => e = .returned (.string ⟨(Lib.join (xs.map (·.data.toList)) sep.data.toList).toArray⟩) ∧ Below w.heap.size w w' := Any.strings_Join Tryz.lays156 Tryz.Builder_Extra_156 bk o c xs sep w hcells hbk hN hcap hlen
def Tryz.lays119_ren : Go.Shelf.Ren := ⟨fun | 119 => 136 | n => n, fun | 21 => 21 | 4 => 4 | n => n, fun | n => n⟩
theorem Tryz.lays119 : Go.Proofs.Lays.n119 Tryz.prog Tryz.lays119_ren := {
  mixed := by kernel_rfl
  f119 := Tryz.func136.trans (congrArg some (by kernel_rfl))
  t4 := Tryz.underlying4
  a4 := Tryz.isAgg4
  z4 := Tryz.sizeOf4
  v4 := Tryz.zeroValue4
  t21 := Tryz.underlying21
  a21 := Tryz.isAgg21
  z21 := Tryz.sizeOf21
  v21 := Tryz.zeroValue21 }
/-- utf8.ValidRune: "ValidRune reports whether r can be legally encoded as UTF-8. Code points that are out of range or a surrogate half are illegal.": IT RETURNS 'Lib.validRune r'; the world is as it was. (LAID: no walk: one application.) -/
theorem Tryz.utf8_ValidRune (r : Int) (w : World) :
    Calls Tryz.prog 136 #[.int .i32 r] w fun e w' => e = .returned (.bool (Lib.validRune r)) ∧ w' = w := Any.utf8_ValidRune Tryz.lays119 r w
def Tryz.lays137_ren : Go.Shelf.Ren := ⟨fun | 137 => 79 | 217 => 105 | 266 => 133 | n => n, fun | 9 => 9 | 5 => 5 | 3 => 3 | n => n, fun | n => n⟩
theorem Tryz.lays137 : Go.Proofs.Lays.n137 Tryz.prog Tryz.lays137_ren := {
  mixed := by kernel_rfl
  f137 := Tryz.func79.trans (congrArg some (by kernel_rfl))
  f217 := Tryz.func105.trans (congrArg some (by kernel_rfl))
  f266 := Tryz.func133.trans (congrArg some (by kernel_rfl))
  t3 := Tryz.underlying3
  a3 := Tryz.isAgg3
  z3 := Tryz.sizeOf3
  v3 := Tryz.zeroValue3
  t5 := Tryz.underlying5
  a5 := Tryz.isAgg5
  z5 := Tryz.sizeOf5
  v5 := Tryz.zeroValue5
  t9 := Tryz.underlying9
  a9 := Tryz.isAgg9
  z9 := Tryz.sizeOf9
  v9 := Tryz.zeroValue9 }
open Go.RowKit in
/-- strings.IndexByte: "IndexByte returns the index of the first instance of c in s, or -1 if c is not present in s.": IT RETURNS 'Lib.indexByte s c'; the world is as it was. (LAID: no walk: one application.) -/
theorem Tryz.strings_IndexByte (s : ByteArray) (c : Int) (w : World) :
    Calls Tryz.prog 79 #[.string s, .int .u8 c] w fun e w' => e = .returned (.int .i64 (Lib.indexByte s.data.toList c.toNat.toUInt8)) ∧ w' = w := Any.strings_IndexByte Tryz.lays137 s c w
def Tryz.lays103_ren : Go.Shelf.Ren := ⟨fun | 103 => 109 | 210 => 138 | 206 => 165 | n => n, fun | 9 => 9 | 4 => 4 | 24 => 74 | 3 => 3 | n => n, fun | n => n⟩
theorem Tryz.lays103 : Go.Proofs.Lays.n103 Tryz.prog Tryz.lays103_ren := {
  mixed := by kernel_rfl
  f103 := Tryz.func109.trans (congrArg some (by kernel_rfl))
  f206 := Tryz.func165.trans (congrArg some (by kernel_rfl))
  f210 := Tryz.func138.trans (congrArg some (by kernel_rfl))
  t3 := Tryz.underlying3
  a3 := Tryz.isAgg3
  z3 := Tryz.sizeOf3
  v3 := Tryz.zeroValue3
  t4 := Tryz.underlying4
  a4 := Tryz.isAgg4
  z4 := Tryz.sizeOf4
  v4 := Tryz.zeroValue4
  t9 := Tryz.underlying9
  a9 := Tryz.isAgg9
  z9 := Tryz.sizeOf9
  v9 := Tryz.zeroValue9
  t24 := Tryz.underlying74
  a24 := Tryz.isAgg74
  z24 := Tryz.sizeOf74
  v24 := Tryz.zeroValue74 }
open Go.RowKit in
/-- strings.CutPrefix: "CutPrefix returns s without the provided leading prefix string and reports whether it found the prefix. If s doesn't start with prefix, CutPrefix returns s, false. If prefix is the empty string, CutPrefix returns s, true.": IT RETURNS '(Lib.trimPrefix s p, Lib.hasPrefix s p)'; the world is as it was. (LAID: no walk: one application.) -/
theorem Tryz.strings_CutPrefix (s p : ByteArray) (w : World) :
    Calls Tryz.prog 109 #[.string s, .string p] w fun e w' => e = .returned (.tuple #[.string ⟨(Lib.trimPrefix s.data.toList p.data.toList).toArray⟩, .bool (Lib.hasPrefix s.data.toList p.data.toList)]) ∧ w' = w := Any.strings_CutPrefix Tryz.lays103 s p w
open Go.RowKit in
/-- (*strings.Builder).Len: "Len returns the number of accumulated bytes; b.Len() == len(b.String()).": the world is as it was. (THE FORM '_f': 'Lib.IsBuilderF'.) (LAID: no walk: one application.) -/
theorem Tryz.Builder_Len_f (B b : Nat) (bs : List Value) (w : World) (h : Lib.IsBuilderF 115 5 B b bs w) :
    Calls Tryz.prog 76 #[.pointer (some ⟨b, 0, none⟩)] w fun e w' => e = .returned (.int .i64 bs.length) ∧ w' = w := Any.Builder_Len_f Tryz.lays170 B b bs w h
open Go.RowKit in
/-- (*strings.Builder).String: "String returns the accumulated string.": WHATEVER THE BUILDER HOLDS; THE FORM '_k': OVER 'Lib.IsBuilderF' (a builder that 'String()' may have read), AND WITH THE FRAME THAT REACHES ABOVE THE BUILDER: 'Lib.OthersKept': every block that is not b and is no row of uint8's stands as it stood: the iterator of a range among them. (LAID: no walk: one application.) -/
theorem Tryz.Builder_String_any_k (B b : Nat) (l : List UInt8) (w : World) (h : Lib.IsBuilderF 115 5 B b (Lib.byteCells l) w) (hBw : B ≤ w.heap.size) :
    Calls Tryz.prog 77 #[.pointer (some ⟨b, 0, none⟩)] w fun e w' => e = .returned (.string ⟨l.toArray⟩) ∧ (Lib.IsBuilderF 115 5 B b (Lib.byteCells l) w' ∧ Below B w w' ∧ Lib.OthersKept 5 (some b) w w') := Any.Builder_String_any_k Tryz.lays169 Tryz.Builder_Extra_169 B b l w h hBw
def Tryz.laysM316_ren : Go.Shelf.Ren := ⟨fun | 316 => 194 | n => n, fun | 9 => 9 | 3 => 3 | 4 => 4 | 37 => 113 | 0 => 0 | 127 => 148 | 5 => 5 | n => n, fun | n => n⟩
theorem Tryz.laysM316 : Go.Proofs.LaysM.n316 Tryz.prog Tryz.laysM316_ren := {
  mixed := by kernel_rfl
  f316 := Tryz.func194.trans (congrArg some (by kernel_rfl))
  t0 := Tryz.underlying0
  a0 := Tryz.isAgg0
  z0 := Tryz.sizeOf0
  v0 := Tryz.zeroValue0
  t3 := Tryz.underlying3
  a3 := Tryz.isAgg3
  z3 := Tryz.sizeOf3
  v3 := Tryz.zeroValue3
  t4 := Tryz.underlying4
  a4 := Tryz.isAgg4
  z4 := Tryz.sizeOf4
  v4 := Tryz.zeroValue4
  t9 := Tryz.underlying9
  a9 := Tryz.isAgg9
  z9 := Tryz.sizeOf9
  v9 := Tryz.zeroValue9
  t37 := Tryz.underlying113
  a37 := Tryz.isAgg113
  z37 := Tryz.sizeOf113
  v37 := Tryz.zeroValue113
  t127 := Tryz.underlying148
  a127 := Tryz.isAgg148
  z127 := Tryz.sizeOf148
  v127 := Tryz.zeroValue148
  t5 := Tryz.underlying5
  a5 := Tryz.isAgg5
  z5 := Tryz.sizeOf5
  v5 := Tryz.zeroValue5
  i0 := by kernel_rfl
  i3 := by kernel_rfl
  i4 := by kernel_rfl
  i5 := by kernel_rfl
  i9 := by kernel_rfl
  i37 := by kernel_rfl
  i127 := by kernel_rfl }
open Go.RowKit in
/-- internal/stringslite.Clone (what strings.Clone calls): "Clone returns a fresh copy of s.": THE SAME BYTES. Of what was there nothing has turned (a new row is laid, and frozen, where s is not empty). (LAID: no walk: one application.) -/
theorem Tryz.stringslite_Clone (s : ByteArray) (w : World) (hlim : s.size ≤ 281474976710656) :
    Calls Tryz.prog 194 #[.string s] w fun e w' => e = .returned (.string s) ∧ Below w.heap.size w w' := Any.stringslite_Clone Tryz.laysM316 s w hlim
def Tryz.laysC245_ren : Go.Shelf.Ren := ⟨fun | 245 => 164 | 279 => 182 | 280 => 183 | 281 => 184 | 282 => 185 | 316 => 194 | 171 => 196 | 205 => 195 | 243 => 206 | 246 => 214 | 283 => 215 | 284 => 216 | 285 => 217 | 286 => 218 | 129 => 220 | 317 => 219 | 318 => 221 | 319 => 222 | 320 => 223 | 337 => 224 | 338 => 225 | n => n, fun | 9 => 9 | 3 => 3 | 75 => 122 | 167 => 232 | 4 => 4 | 168 => 234 | 210 => 254 | 37 => 113 | 0 => 0 | 127 => 148 | 145 => 268 | 143 => 266 | 2 => 2 | 171 => 273 | 53 => 189 | 5 => 5 | 173 => 276 | 212 => 279 | 51 => 162 | 20 => 20 | 213 => 280 | 46 => 227 | 232 => 283 | 233 => 284 | 80 => 117 | n => n, fun | 15 => 3 | 16 => 4 | 17 => 5 | 18 => 6 | 19 => 7 | n => n⟩
theorem Tryz.laysC245 : Go.Proofs.LaysC.n245 Tryz.prog Tryz.laysC245_ren := {
  mixed := by kernel_rfl
  f129 := Tryz.func220.trans (congrArg some (by kernel_rfl))
  f171 := Tryz.func196.trans (congrArg some (by kernel_rfl))
  f205 := Tryz.func195.trans (congrArg some (by kernel_rfl))
  f243 := Tryz.func206.trans (congrArg some (by kernel_rfl))
  f245 := Tryz.func164.trans (congrArg some (by kernel_rfl))
  f246 := Tryz.func214.trans (congrArg some (by kernel_rfl))
  f279 := Tryz.func182.trans (congrArg some (by kernel_rfl))
  f280 := Tryz.func183.trans (congrArg some (by kernel_rfl))
  f281 := Tryz.func184.trans (congrArg some (by kernel_rfl))
  f282 := Tryz.func185.trans (congrArg some (by kernel_rfl))
  f283 := Tryz.func215.trans (congrArg some (by kernel_rfl))
  f284 := Tryz.func216.trans (congrArg some (by kernel_rfl))
  f285 := Tryz.func217.trans (congrArg some (by kernel_rfl))
  f286 := Tryz.func218.trans (congrArg some (by kernel_rfl))
  f316 := Tryz.func194.trans (congrArg some (by kernel_rfl))
  f317 := Tryz.func219.trans (congrArg some (by kernel_rfl))
  f318 := Tryz.func221.trans (congrArg some (by kernel_rfl))
  f319 := Tryz.func222.trans (congrArg some (by kernel_rfl))
  f320 := Tryz.func223.trans (congrArg some (by kernel_rfl))
  f337 := Tryz.func224.trans (congrArg some (by kernel_rfl))
  f338 := Tryz.func225.trans (congrArg some (by kernel_rfl))
  t0 := Tryz.underlying0
  a0 := Tryz.isAgg0
  z0 := Tryz.sizeOf0
  v0 := Tryz.zeroValue0
  t2 := Tryz.underlying2
  a2 := Tryz.isAgg2
  z2 := Tryz.sizeOf2
  v2 := Tryz.zeroValue2
  t3 := Tryz.underlying3
  a3 := Tryz.isAgg3
  z3 := Tryz.sizeOf3
  v3 := Tryz.zeroValue3
  t4 := Tryz.underlying4
  a4 := Tryz.isAgg4
  z4 := Tryz.sizeOf4
  v4 := Tryz.zeroValue4
  t5 := Tryz.underlying5
  a5 := Tryz.isAgg5
  z5 := Tryz.sizeOf5
  v5 := Tryz.zeroValue5
  t9 := Tryz.underlying9
  a9 := Tryz.isAgg9
  z9 := Tryz.sizeOf9
  v9 := Tryz.zeroValue9
  t20 := Tryz.underlying20
  a20 := Tryz.isAgg20
  z20 := Tryz.sizeOf20
  v20 := Tryz.zeroValue20
  t37 := Tryz.underlying113
  a37 := Tryz.isAgg113
  z37 := Tryz.sizeOf113
  v37 := Tryz.zeroValue113
  t46 := Tryz.underlying227
  a46 := Tryz.isAgg227
  z46 := Tryz.sizeOf227
  v46 := Tryz.zeroValue227
  t51 := Tryz.underlying162
  a51 := Tryz.isAgg162
  z51 := Tryz.sizeOf162
  v51 := Tryz.zeroValue162
  t53 := Tryz.underlying189
  a53 := Tryz.isAgg189
  z53 := Tryz.sizeOf189
  v53 := Tryz.zeroValue189
  t75 := Tryz.underlying122
  a75 := Tryz.isAgg122
  z75 := Tryz.sizeOf122
  v75 := Tryz.zeroValue122
  t127 := Tryz.underlying148
  a127 := Tryz.isAgg148
  z127 := Tryz.sizeOf148
  v127 := Tryz.zeroValue148
  t143 := Tryz.underlying266
  a143 := Tryz.isAgg266
  z143 := Tryz.sizeOf266
  v143 := Tryz.zeroValue266
  t145 := Tryz.underlying268
  a145 := Tryz.isAgg268
  z145 := Tryz.sizeOf268
  v145 := Tryz.zeroValue268
  t167 := Tryz.underlying232
  a167 := Tryz.isAgg232
  z167 := Tryz.sizeOf232
  v167 := Tryz.zeroValue232
  t168 := Tryz.underlying234
  a168 := Tryz.isAgg234
  z168 := Tryz.sizeOf234
  v168 := Tryz.zeroValue234
  t171 := Tryz.underlying273
  a171 := Tryz.isAgg273
  z171 := Tryz.sizeOf273
  v171 := Tryz.zeroValue273
  t173 := Tryz.underlying276
  a173 := Tryz.isAgg276
  z173 := Tryz.sizeOf276
  v173 := Tryz.zeroValue276
  t210 := Tryz.underlying254
  a210 := Tryz.isAgg254
  z210 := Tryz.sizeOf254
  v210 := Tryz.zeroValue254
  t212 := Tryz.underlying279
  a212 := Tryz.isAgg279
  z212 := Tryz.sizeOf279
  v212 := Tryz.zeroValue279
  t213 := Tryz.underlying280
  a213 := Tryz.isAgg280
  z213 := Tryz.sizeOf280
  t232 := Tryz.underlying283
  a232 := Tryz.isAgg283
  z232 := Tryz.sizeOf283
  v232 := Tryz.zeroValue283
  t233 := Tryz.underlying284
  a233 := Tryz.isAgg284
  z233 := Tryz.sizeOf284
  v233 := Tryz.zeroValue284
  g15 := by kernel_rfl
  g16 := by kernel_rfl
  g17 := by kernel_rfl
  g18 := by kernel_rfl
  g19 := by kernel_rfl
  t80 := Tryz.underlying117
  a80 := Tryz.isAgg117
  z80 := Tryz.sizeOf117
  v80 := Tryz.zeroValue117
  i0 := by kernel_rfl
  i2 := by kernel_rfl
  i3 := by kernel_rfl
  i4 := by kernel_rfl
  i5 := by kernel_rfl
  i9 := by kernel_rfl
  i20 := by kernel_rfl
  i37 := by kernel_rfl
  i46 := by kernel_rfl
  i51 := by kernel_rfl
  i53 := by kernel_rfl
  i75 := by kernel_rfl
  i80 := by kernel_rfl
  i127 := by kernel_rfl
  i143 := by kernel_rfl
  i145 := by kernel_rfl
  i167 := by kernel_rfl
  i168 := by kernel_rfl
  i171 := by kernel_rfl
  i173 := by kernel_rfl
  i210 := by kernel_rfl
  i212 := by kernel_rfl
  i232 := by kernel_rfl
  i233 := by kernel_rfl
  m15 := by kernel_rfl
  m16 := by kernel_rfl
  m17 := by kernel_rfl
  m18 := by kernel_rfl
  m19 := by kernel_rfl
  c0 := by kernel_rfl
  c2 := by kernel_rfl
  c3 := by kernel_rfl
  c4 := by kernel_rfl
  c5 := by kernel_rfl
  c9 := by kernel_rfl
  c20 := by kernel_rfl
  c37 := by kernel_rfl
  c46 := by kernel_rfl
  c51 := by kernel_rfl
  c53 := by kernel_rfl
  c75 := by kernel_rfl
  c80 := by kernel_rfl
  c127 := by kernel_rfl
  c143 := by kernel_rfl
  c145 := by kernel_rfl
  c167 := by kernel_rfl
  c168 := by kernel_rfl
  c171 := by kernel_rfl
  c173 := by kernel_rfl
  c210 := by kernel_rfl
  c212 := by kernel_rfl
  c213 := by kernel_rfl
  c232 := by kernel_rfl
  c233 := by kernel_rfl }
open Go.RowKit in
/-- strconv.toError, at the inner package's ErrSyntax: 'syntaxError(fn, s)' as an error: A *NumError IN A NEW BLOCK. (LAID: no walk: one application.) -/
theorem Tryz.strconv_toError_syntax (fn s : ByteArray) (base bits : Int) (ev : Value) (w : World) (hlim : s.size ≤ 281474976710656) (hv : w.cell? ⟨3, 0, none⟩ = some ev) (hev : ev = .nilIface ∨ ∃ te pe, ev = .iface te pe) :
    Calls Tryz.prog 164 #[.string fn, .string s, .int .i64 base, .int .i64 bits, .iface 232 (.int .i64 2)] w fun e w' => ∃ N, e = .returned (.iface 234 (.pointer (some ⟨N, 0, none⟩))) ∧ w.heap.size ≤ N ∧ w'.heap[N]? = some (.cells #[.string fn, .string s, ev] 254 (0, 0)) ∧ Below w.heap.size w w' := Any.strconv_toError_syntax Tryz.laysC245 fn s base bits ev w hlim hv hev
open Go.RowKit in
/-- strconv.toError, at the inner package's ErrRange: 'rangeError(fn, s)' as an error: A *NumError IN A NEW BLOCK. (LAID: no walk: one application.) -/
theorem Tryz.strconv_toError_range (fn s : ByteArray) (base bits : Int) (ev : Value) (w : World) (hlim : s.size ≤ 281474976710656) (hv : w.cell? ⟨4, 0, none⟩ = some ev) (hev : ev = .nilIface ∨ ∃ te pe, ev = .iface te pe) :
    Calls Tryz.prog 164 #[.string fn, .string s, .int .i64 base, .int .i64 bits, .iface 232 (.int .i64 1)] w fun e w' => ∃ N, e = .returned (.iface 234 (.pointer (some ⟨N, 0, none⟩))) ∧ w.heap.size ≤ N ∧ w'.heap[N]? = some (.cells #[.string fn, .string s, ev] 254 (0, 0)) ∧ Below w.heap.size w w' := Any.strconv_toError_range Tryz.laysC245 fn s base bits ev w hlim hv hev
def Tryz.laysPu14_ren : Go.Shelf.Ren := ⟨fun | 14 => 135 | 16 => 163 | 17 => 164 | 19 => 180 | 20 => 181 | 21 => 182 | 22 => 183 | 23 => 184 | 24 => 185 | 25 => 194 | 27 => 196 | 26 => 195 | 28 => 206 | 29 => 214 | 30 => 215 | 31 => 216 | 32 => 217 | 33 => 218 | 35 => 220 | 34 => 219 | 36 => 221 | 37 => 222 | 38 => 223 | 39 => 224 | 40 => 225 | n => n, fun | 9 => 9 | 3 => 3 | 22 => 189 | 24 => 122 | 25 => 190 | 4 => 4 | 34 => 232 | 5 => 5 | 36 => 227 | 37 => 113 | 0 => 0 | 39 => 234 | 21 => 21 | 44 => 254 | 47 => 148 | 50 => 268 | 48 => 266 | 2 => 2 | 52 => 273 | 55 => 276 | 59 => 279 | 60 => 162 | 20 => 20 | 61 => 280 | 65 => 283 | 66 => 284 | 67 => 117 | n => n, fun | 0 => 3 | 1 => 4 | 2 => 5 | 3 => 6 | 4 => 7 | n => n⟩
theorem Tryz.laysPu14 : Go.Proofs.LaysPu.n14 Tryz.prog Tryz.laysPu14_ren := {
  mixed := by kernel_rfl
  f14 := Tryz.func135.trans (congrArg some (by kernel_rfl))
  f16 := Tryz.func163.trans (congrArg some (by kernel_rfl))
  f17 := Tryz.func164.trans (congrArg some (by kernel_rfl))
  f19 := Tryz.func180.trans (congrArg some (by kernel_rfl))
  f20 := Tryz.func181.trans (congrArg some (by kernel_rfl))
  f21 := Tryz.func182.trans (congrArg some (by kernel_rfl))
  f22 := Tryz.func183.trans (congrArg some (by kernel_rfl))
  f23 := Tryz.func184.trans (congrArg some (by kernel_rfl))
  f24 := Tryz.func185.trans (congrArg some (by kernel_rfl))
  f25 := Tryz.func194.trans (congrArg some (by kernel_rfl))
  f26 := Tryz.func195.trans (congrArg some (by kernel_rfl))
  f27 := Tryz.func196.trans (congrArg some (by kernel_rfl))
  f28 := Tryz.func206.trans (congrArg some (by kernel_rfl))
  f29 := Tryz.func214.trans (congrArg some (by kernel_rfl))
  f30 := Tryz.func215.trans (congrArg some (by kernel_rfl))
  f31 := Tryz.func216.trans (congrArg some (by kernel_rfl))
  f32 := Tryz.func217.trans (congrArg some (by kernel_rfl))
  f33 := Tryz.func218.trans (congrArg some (by kernel_rfl))
  f34 := Tryz.func219.trans (congrArg some (by kernel_rfl))
  f35 := Tryz.func220.trans (congrArg some (by kernel_rfl))
  f36 := Tryz.func221.trans (congrArg some (by kernel_rfl))
  f37 := Tryz.func222.trans (congrArg some (by kernel_rfl))
  f38 := Tryz.func223.trans (congrArg some (by kernel_rfl))
  f39 := Tryz.func224.trans (congrArg some (by kernel_rfl))
  f40 := Tryz.func225.trans (congrArg some (by kernel_rfl))
  t0 := Tryz.underlying0
  a0 := Tryz.isAgg0
  z0 := Tryz.sizeOf0
  v0 := Tryz.zeroValue0
  i0 := by kernel_rfl
  t2 := Tryz.underlying2
  a2 := Tryz.isAgg2
  z2 := Tryz.sizeOf2
  v2 := Tryz.zeroValue2
  i2 := by kernel_rfl
  t3 := Tryz.underlying3
  a3 := Tryz.isAgg3
  z3 := Tryz.sizeOf3
  v3 := Tryz.zeroValue3
  i3 := by kernel_rfl
  t4 := Tryz.underlying4
  a4 := Tryz.isAgg4
  z4 := Tryz.sizeOf4
  v4 := Tryz.zeroValue4
  i4 := by kernel_rfl
  t5 := Tryz.underlying5
  a5 := Tryz.isAgg5
  z5 := Tryz.sizeOf5
  v5 := Tryz.zeroValue5
  i5 := by kernel_rfl
  t9 := Tryz.underlying9
  a9 := Tryz.isAgg9
  z9 := Tryz.sizeOf9
  v9 := Tryz.zeroValue9
  i9 := by kernel_rfl
  t20 := Tryz.underlying20
  a20 := Tryz.isAgg20
  z20 := Tryz.sizeOf20
  v20 := Tryz.zeroValue20
  i20 := by kernel_rfl
  t21 := Tryz.underlying21
  a21 := Tryz.isAgg21
  z21 := Tryz.sizeOf21
  v21 := Tryz.zeroValue21
  i21 := by kernel_rfl
  t22 := Tryz.underlying189
  a22 := Tryz.isAgg189
  z22 := Tryz.sizeOf189
  v22 := Tryz.zeroValue189
  i22 := by kernel_rfl
  t24 := Tryz.underlying122
  a24 := Tryz.isAgg122
  z24 := Tryz.sizeOf122
  v24 := Tryz.zeroValue122
  i24 := by kernel_rfl
  t25 := Tryz.underlying190
  a25 := Tryz.isAgg190
  z25 := Tryz.sizeOf190
  v25 := Tryz.zeroValue190
  i25 := by kernel_rfl
  t34 := Tryz.underlying232
  a34 := Tryz.isAgg232
  z34 := Tryz.sizeOf232
  v34 := Tryz.zeroValue232
  i34 := by kernel_rfl
  c34 := by kernel_rfl
  t36 := Tryz.underlying227
  a36 := Tryz.isAgg227
  z36 := Tryz.sizeOf227
  v36 := Tryz.zeroValue227
  i36 := by kernel_rfl
  t37 := Tryz.underlying113
  a37 := Tryz.isAgg113
  z37 := Tryz.sizeOf113
  v37 := Tryz.zeroValue113
  i37 := by kernel_rfl
  t39 := Tryz.underlying234
  a39 := Tryz.isAgg234
  z39 := Tryz.sizeOf234
  v39 := Tryz.zeroValue234
  i39 := by kernel_rfl
  t44 := Tryz.underlying254
  a44 := Tryz.isAgg254
  z44 := Tryz.sizeOf254
  v44 := Tryz.zeroValue254
  i44 := by kernel_rfl
  t47 := Tryz.underlying148
  a47 := Tryz.isAgg148
  z47 := Tryz.sizeOf148
  v47 := Tryz.zeroValue148
  i47 := by kernel_rfl
  t48 := Tryz.underlying266
  a48 := Tryz.isAgg266
  z48 := Tryz.sizeOf266
  v48 := Tryz.zeroValue266
  i48 := by kernel_rfl
  t50 := Tryz.underlying268
  a50 := Tryz.isAgg268
  z50 := Tryz.sizeOf268
  v50 := Tryz.zeroValue268
  i50 := by kernel_rfl
  t52 := Tryz.underlying273
  a52 := Tryz.isAgg273
  z52 := Tryz.sizeOf273
  v52 := Tryz.zeroValue273
  i52 := by kernel_rfl
  t55 := Tryz.underlying276
  a55 := Tryz.isAgg276
  z55 := Tryz.sizeOf276
  v55 := Tryz.zeroValue276
  i55 := by kernel_rfl
  t59 := Tryz.underlying279
  a59 := Tryz.isAgg279
  z59 := Tryz.sizeOf279
  v59 := Tryz.zeroValue279
  i59 := by kernel_rfl
  t60 := Tryz.underlying162
  a60 := Tryz.isAgg162
  z60 := Tryz.sizeOf162
  v60 := Tryz.zeroValue162
  i60 := by kernel_rfl
  t61 := Tryz.underlying280
  a61 := Tryz.isAgg280
  z61 := Tryz.sizeOf280
  t65 := Tryz.underlying283
  a65 := Tryz.isAgg283
  z65 := Tryz.sizeOf283
  v65 := Tryz.zeroValue283
  i65 := by kernel_rfl
  t66 := Tryz.underlying284
  a66 := Tryz.isAgg284
  z66 := Tryz.sizeOf284
  v66 := Tryz.zeroValue284
  i66 := by kernel_rfl
  t67 := Tryz.underlying117
  a67 := Tryz.isAgg117
  z67 := Tryz.sizeOf117
  v67 := Tryz.zeroValue117
  i67 := by kernel_rfl
  g0 := by kernel_rfl
  m0 := by kernel_rfl
  g1 := by kernel_rfl
  m1 := by kernel_rfl
  g2 := by kernel_rfl
  m2 := by kernel_rfl
  g3 := by kernel_rfl
  m3 := by kernel_rfl
  g4 := by kernel_rfl
  m4 := by kernel_rfl }
open Go.RowKit in
/-- strconv.ParseUint(s, 10, 32), AT EVERY STRING THAT SPELLS A uint32 ('Lib.parseUintB 32 s.data.toList = .ok u'): u, AND NO ERROR. (LAID: no walk: one application.) -/
theorem Tryz.strconv_ParseUint_10_at32_ok (s : ByteArray) (hmax : s.size ≤ 9223372036854775806) (u : Nat) (h : Lib.parseUintB 32 s.data.toList = .ok u) (w : World) :
    Calls Tryz.prog 135 #[.string s, .int .i64 10, .int .i64 32] w fun e w' => e = .returned (.tuple #[.int .u64 u, .nilIface]) ∧ (w' = w ∨ w' = Lib.bytesWorld w 5 s) := Any.strconv_ParseUint_10_at32_ok Tryz.laysPu14 s hmax u h w
open Go.RowKit in
/-- strconv.ParseUint(s, 10, 32), AT EVERY STRING THAT IS NO ROW OF DECIMAL DIGITS (a sign is a fault): 0, AND AN ERROR THAT IS NOT nil: a *NumError in a new block N: {Func: "ParseUint", Num: s's bytes, Err: what the variable ErrSyntax holds}. Of what was there nothing has turned. (LAID: no walk: one application.) -/
theorem Tryz.strconv_ParseUint_10_at32_syntax (s : ByteArray) (hlim : s.size ≤ 281474976710656) (h : Lib.parseUintB 32 s.data.toList = Lib.parseUintB 0 []) (ev : Value) (w : World) (hv : w.cell? ⟨3, 0, none⟩ = some ev) (hev : ev = .nilIface ∨ ∃ te pe, ev = .iface te pe) :
    Calls Tryz.prog 135 #[.string s, .int .i64 10, .int .i64 32] w fun e w' => ∃ N, e = .returned (.tuple #[.int .u64 0, .iface 234 (.pointer (some ⟨N, 0, none⟩))]) ∧ w.heap.size ≤ N ∧ w'.heap[N]? = some (.cells #[.string ⟨#[80, 97, 114, 115, 101, 85, 105, 110, 116]⟩, .string s, ev] 254 (0, 0)) ∧ Below w.heap.size w w' := Any.strconv_ParseUint_10_at32_syntax Tryz.laysPu14 s hlim h ev w hv hev
open Go.RowKit in
/-- strconv.ParseUint(s, 10, 32), AT EVERY NUMERAL THAT NO uint32 HOLDS: THE GREATEST uint32, AND AN ERROR THAT IS NOT nil: a *NumError in a new block N: {Func: "ParseUint", Num: s's bytes, Err: what the variable ErrRange holds}. Of what was there nothing has turned. (LAID: no walk: one application.) -/
theorem Tryz.strconv_ParseUint_10_at32_range (s : ByteArray) (hlim : s.size ≤ 281474976710656) (h : Lib.parseUintB 32 s.data.toList = .range) (ev : Value) (w : World) (hv : w.cell? ⟨4, 0, none⟩ = some ev) (hev : ev = .nilIface ∨ ∃ te pe, ev = .iface te pe) :
    Calls Tryz.prog 135 #[.string s, .int .i64 10, .int .i64 32] w fun e w' => ∃ N, e = .returned (.tuple #[.int .u64 4294967295, .iface 234 (.pointer (some ⟨N, 0, none⟩))]) ∧ w.heap.size ≤ N ∧ w'.heap[N]? = some (.cells #[.string ⟨#[80, 97, 114, 115, 101, 85, 105, 110, 116]⟩, .string s, ev] 254 (0, 0)) ∧ Below w.heap.size w w' := Any.strconv_ParseUint_10_at32_range Tryz.laysPu14 s hlim h ev w hv hev
def Tryz.lays144_ren : Go.Shelf.Ren := ⟨fun | 144 => 167 | 143 => 186 | 219 => 162 | 217 => 105 | 225 => 178 | 224 => 177 | 267 => 179 | 266 => 133 | 314 => 193 | n => n, fun | 9 => 9 | 4 => 4 | 3 => 3 | 5 => 5 | 46 => 227 | 146 => 251 | 51 => 162 | n => n, fun | 1 => 0 | n => n⟩
theorem Tryz.lays144 : Go.Proofs.Lays.n144 Tryz.prog Tryz.lays144_ren := {
  mixed := by kernel_rfl
  f143 := Tryz.func186.trans (congrArg some (by kernel_rfl))
  f144 := Tryz.func167.trans (congrArg some (by kernel_rfl))
  f217 := Tryz.func105.trans (congrArg some (by kernel_rfl))
  f219 := Tryz.func162.trans (congrArg some (by kernel_rfl))
  f224 := Tryz.func177.trans (congrArg some (by kernel_rfl))
  f225 := Tryz.func178.trans (congrArg some (by kernel_rfl))
  f266 := Tryz.func133.trans (congrArg some (by kernel_rfl))
  f267 := Tryz.func179.trans (congrArg some (by kernel_rfl))
  f314 := Tryz.func193.trans (congrArg some (by kernel_rfl))
  t3 := Tryz.underlying3
  a3 := Tryz.isAgg3
  z3 := Tryz.sizeOf3
  v3 := Tryz.zeroValue3
  t4 := Tryz.underlying4
  a4 := Tryz.isAgg4
  z4 := Tryz.sizeOf4
  v4 := Tryz.zeroValue4
  t5 := Tryz.underlying5
  a5 := Tryz.isAgg5
  z5 := Tryz.sizeOf5
  v5 := Tryz.zeroValue5
  t9 := Tryz.underlying9
  a9 := Tryz.isAgg9
  z9 := Tryz.sizeOf9
  v9 := Tryz.zeroValue9
  t46 := Tryz.underlying227
  a46 := Tryz.isAgg227
  z46 := Tryz.sizeOf227
  v46 := Tryz.zeroValue227
  t51 := Tryz.underlying162
  a51 := Tryz.isAgg162
  z51 := Tryz.sizeOf162
  v51 := Tryz.zeroValue162
  t146 := Tryz.underlying251
  a146 := Tryz.isAgg251
  z146 := Tryz.sizeOf251
  v146 := Tryz.zeroValue251
  g1 := by kernel_rfl }
open Go.RowKit Go.Lib in
/-- strings.Contains: "Contains reports whether substr is within s.": AT A substr OF ONE BYTE c: IT RETURNS 'decide (0 ≤ Lib.indexByte s c)'; the world is as it was. (LAID: no walk: one application.) -/
theorem Tryz.strings_Contains_one (s : ByteArray) (c : UInt8) (w : World) :
    Calls Tryz.prog 167 #[.string s, .string ⟨#[c]⟩] w fun e w' => e = .returned (.bool (decide (0 ≤ Lib.indexByte s.data.toList c))) ∧ w' = w := Any.strings_Contains_one Tryz.lays144 s c w
def Tryz.lays145_ren : Go.Shelf.Ren := ⟨fun | 145 => 106 | 220 => 134 | 219 => 162 | 217 => 105 | 225 => 178 | 224 => 177 | 267 => 179 | 266 => 133 | 314 => 193 | n => n, fun | 9 => 9 | 4 => 4 | 59 => 149 | 3 => 3 | 5 => 5 | 46 => 227 | 146 => 251 | 51 => 162 | n => n, fun | 1 => 0 | n => n⟩
theorem Tryz.lays145 : Go.Proofs.Lays.n145 Tryz.prog Tryz.lays145_ren := {
  mixed := by kernel_rfl
  f145 := Tryz.func106.trans (congrArg some (by kernel_rfl))
  f217 := Tryz.func105.trans (congrArg some (by kernel_rfl))
  f219 := Tryz.func162.trans (congrArg some (by kernel_rfl))
  f220 := Tryz.func134.trans (congrArg some (by kernel_rfl))
  f224 := Tryz.func177.trans (congrArg some (by kernel_rfl))
  f225 := Tryz.func178.trans (congrArg some (by kernel_rfl))
  f266 := Tryz.func133.trans (congrArg some (by kernel_rfl))
  f267 := Tryz.func179.trans (congrArg some (by kernel_rfl))
  f314 := Tryz.func193.trans (congrArg some (by kernel_rfl))
  t3 := Tryz.underlying3
  a3 := Tryz.isAgg3
  z3 := Tryz.sizeOf3
  v3 := Tryz.zeroValue3
  t4 := Tryz.underlying4
  a4 := Tryz.isAgg4
  z4 := Tryz.sizeOf4
  v4 := Tryz.zeroValue4
  t5 := Tryz.underlying5
  a5 := Tryz.isAgg5
  z5 := Tryz.sizeOf5
  v5 := Tryz.zeroValue5
  t9 := Tryz.underlying9
  a9 := Tryz.isAgg9
  z9 := Tryz.sizeOf9
  v9 := Tryz.zeroValue9
  t46 := Tryz.underlying227
  a46 := Tryz.isAgg227
  z46 := Tryz.sizeOf227
  v46 := Tryz.zeroValue227
  t51 := Tryz.underlying162
  a51 := Tryz.isAgg162
  z51 := Tryz.sizeOf162
  v51 := Tryz.zeroValue162
  t59 := Tryz.underlying149
  a59 := Tryz.isAgg149
  z59 := Tryz.sizeOf149
  v59 := Tryz.zeroValue149
  t146 := Tryz.underlying251
  a146 := Tryz.isAgg251
  z146 := Tryz.sizeOf251
  v146 := Tryz.zeroValue251
  g1 := by kernel_rfl }
open Go.RowKit Go.Lib in
/-- strings.Cut: "Cut slices s around the first instance of sep, returning the text before and after sep. The found result reports whether sep appears in s. If sep does not appear in s, cut returns s, "", false.": IT RETURNS 'Lib.cut s sep'; the world is as it was but for the count of draws. (LAID: no walk: one application.) -/
theorem Tryz.strings_Cut (s sep : ByteArray) (m : Int) (w : World) (hs : s.size < 4294967281) (hm : w.cell? ⟨0, 0, none⟩ = some (.int .i64 m)) :
    Calls Tryz.prog 106 #[.string s, .string sep] w fun e w' => e = .returned (.tuple #[.string ⟨(Lib.cut s.data.toList sep.data.toList).1.toArray⟩, .string ⟨(Lib.cut s.data.toList sep.data.toList).2.1.toArray⟩, .bool (Lib.cut s.data.toList sep.data.toList).2.2]) ∧ ∃ n, w' = w.drewN n := Any.strings_Cut Tryz.lays145 s sep m w hs hm
def Tryz.lays138_ren : Go.Shelf.Ren := ⟨fun | 138 => 253 | 195 => 254 | 218 => 255 | 143 => 186 | 219 => 162 | 217 => 105 | 225 => 178 | 224 => 177 | 267 => 179 | 266 => 133 | 314 => 193 | n => n, fun | 9 => 9 | 3 => 3 | 4 => 4 | 5 => 5 | 0 => 0 | 46 => 227 | 146 => 251 | 51 => 162 | n => n, fun | 1 => 0 | n => n⟩
theorem Tryz.lays138 : Go.Proofs.Lays.n138 Tryz.prog Tryz.lays138_ren := {
  mixed := by kernel_rfl
  f138 := Tryz.func253.trans (congrArg some (by kernel_rfl))
  f143 := Tryz.func186.trans (congrArg some (by kernel_rfl))
  f195 := Tryz.func254.trans (congrArg some (by kernel_rfl))
  f217 := Tryz.func105.trans (congrArg some (by kernel_rfl))
  f218 := Tryz.func255.trans (congrArg some (by kernel_rfl))
  f219 := Tryz.func162.trans (congrArg some (by kernel_rfl))
  f224 := Tryz.func177.trans (congrArg some (by kernel_rfl))
  f225 := Tryz.func178.trans (congrArg some (by kernel_rfl))
  f266 := Tryz.func133.trans (congrArg some (by kernel_rfl))
  f267 := Tryz.func179.trans (congrArg some (by kernel_rfl))
  f314 := Tryz.func193.trans (congrArg some (by kernel_rfl))
  t0 := Tryz.underlying0
  a0 := Tryz.isAgg0
  z0 := Tryz.sizeOf0
  v0 := Tryz.zeroValue0
  t3 := Tryz.underlying3
  a3 := Tryz.isAgg3
  z3 := Tryz.sizeOf3
  v3 := Tryz.zeroValue3
  t4 := Tryz.underlying4
  a4 := Tryz.isAgg4
  z4 := Tryz.sizeOf4
  v4 := Tryz.zeroValue4
  t5 := Tryz.underlying5
  a5 := Tryz.isAgg5
  z5 := Tryz.sizeOf5
  v5 := Tryz.zeroValue5
  t9 := Tryz.underlying9
  a9 := Tryz.isAgg9
  z9 := Tryz.sizeOf9
  v9 := Tryz.zeroValue9
  t46 := Tryz.underlying227
  a46 := Tryz.isAgg227
  z46 := Tryz.sizeOf227
  v46 := Tryz.zeroValue227
  t51 := Tryz.underlying162
  a51 := Tryz.isAgg162
  z51 := Tryz.sizeOf162
  v51 := Tryz.zeroValue162
  t146 := Tryz.underlying251
  a146 := Tryz.isAgg251
  z146 := Tryz.sizeOf251
  v146 := Tryz.zeroValue251
  g1 := by kernel_rfl }
open Go.RowKit Go.Lib in
/-- strings.Count AT A substr OF ONE BYTE ('hp'): "Count counts the number of non-overlapping instances of substr in s.": IT RETURNS 'Lib.countByte s (that byte)'; the world is as it was. ✋ NO CONTRACT HERE YET at an empty substr (utf8.RuneCountInString) or at a longer one (a loop over strings.Index). (LAID: no walk: one application.) -/
theorem Tryz.strings_Count_one (s : ByteArray) (c : UInt8) (w : World) :
    Calls Tryz.prog 253 #[.string s, .string ⟨#[c]⟩] w fun e w' => e = .returned (.int .i64 (Lib.countByte s.data.toList c)) ∧ w' = w := Any.strings_Count_one Tryz.lays138 s c w
def Tryz.lays99_ren : Go.Shelf.Ren := ⟨fun | 99 => 142 | 206 => 165 | n => n, fun | 9 => 9 | 4 => 4 | 3 => 3 | n => n, fun | n => n⟩
theorem Tryz.lays99 : Go.Proofs.Lays.n99 Tryz.prog Tryz.lays99_ren := {
  mixed := by kernel_rfl
  f99 := Tryz.func142.trans (congrArg some (by kernel_rfl))
  f206 := Tryz.func165.trans (congrArg some (by kernel_rfl))
  t3 := Tryz.underlying3
  a3 := Tryz.isAgg3
  z3 := Tryz.sizeOf3
  v3 := Tryz.zeroValue3
  t4 := Tryz.underlying4
  a4 := Tryz.isAgg4
  z4 := Tryz.sizeOf4
  v4 := Tryz.zeroValue4
  t9 := Tryz.underlying9
  a9 := Tryz.isAgg9
  z9 := Tryz.sizeOf9
  v9 := Tryz.zeroValue9 }
open Go.RowKit Go.Lib in
/-- strings.HasPrefix: "HasPrefix reports whether the string s begins with prefix.": IT RETURNS 'Lib.hasPrefix s prefix'; the world is as it was. (LAID: no walk: one application.) -/
theorem Tryz.strings_HasPrefix (s p : ByteArray) (w : World) :
    Calls Tryz.prog 142 #[.string s, .string p] w fun e w' => e = .returned (.bool (Lib.hasPrefix s.data.toList p.data.toList)) ∧ w' = w := Any.strings_HasPrefix Tryz.lays99 s p w
def Tryz.lays152_ren : Go.Shelf.Ren := ⟨fun | 152 => 160 | 137 => 79 | 119 => 136 | 224 => 177 | 225 => 178 | 217 => 105 | 266 => 133 | n => n, fun | 9 => 9 | 21 => 21 | 3 => 3 | 4 => 4 | 5 => 5 | 0 => 0 | 46 => 227 | n => n, fun | n => n⟩
theorem Tryz.lays152 : Go.Proofs.Lays.n152 Tryz.prog Tryz.lays152_ren := {
  mixed := by kernel_rfl
  f119 := Tryz.func136.trans (congrArg some (by kernel_rfl))
  f137 := Tryz.func79.trans (congrArg some (by kernel_rfl))
  f152 := Tryz.func160.trans (congrArg some (by kernel_rfl))
  f217 := Tryz.func105.trans (congrArg some (by kernel_rfl))
  f224 := Tryz.func177.trans (congrArg some (by kernel_rfl))
  f225 := Tryz.func178.trans (congrArg some (by kernel_rfl))
  f266 := Tryz.func133.trans (congrArg some (by kernel_rfl))
  t0 := Tryz.underlying0
  a0 := Tryz.isAgg0
  z0 := Tryz.sizeOf0
  v0 := Tryz.zeroValue0
  t3 := Tryz.underlying3
  a3 := Tryz.isAgg3
  z3 := Tryz.sizeOf3
  v3 := Tryz.zeroValue3
  t4 := Tryz.underlying4
  a4 := Tryz.isAgg4
  z4 := Tryz.sizeOf4
  v4 := Tryz.zeroValue4
  t5 := Tryz.underlying5
  a5 := Tryz.isAgg5
  z5 := Tryz.sizeOf5
  v5 := Tryz.zeroValue5
  t9 := Tryz.underlying9
  a9 := Tryz.isAgg9
  z9 := Tryz.sizeOf9
  v9 := Tryz.zeroValue9
  t21 := Tryz.underlying21
  a21 := Tryz.isAgg21
  z21 := Tryz.sizeOf21
  v21 := Tryz.zeroValue21
  t46 := Tryz.underlying227
  a46 := Tryz.isAgg227
  z46 := Tryz.sizeOf227
  v46 := Tryz.zeroValue227 }
open Go.RowKit Go.Lib in
theorem Tryz.strings_IndexRune_ascii (s : ByteArray) (r : Int) (w : World) (h0 : 0 ≤ r) (h1 : r < 128) :
    Calls Tryz.prog 160 #[.string s, .int .i32 r] w fun e w' => e = .returned (.int .i64 (Lib.indexByte s.data.toList r.toNat.toUInt8)) ∧ w' = w := Any.strings_IndexRune_ascii Tryz.lays152 s r w h0 h1
def Tryz.lays226_ren : Go.Shelf.Ren := ⟨fun | 226 => 166 | n => n, fun | 3 => 3 | 4 => 4 | n => n, fun | n => n⟩
theorem Tryz.lays226 : Go.Proofs.Lays.n226 Tryz.prog Tryz.lays226_ren := {
  mixed := by kernel_rfl
  f226 := Tryz.func166.trans (congrArg some (by kernel_rfl))
  t3 := Tryz.underlying3
  a3 := Tryz.isAgg3
  z3 := Tryz.sizeOf3
  v3 := Tryz.zeroValue3
  t4 := Tryz.underlying4
  a4 := Tryz.isAgg4
  z4 := Tryz.sizeOf4
  v4 := Tryz.zeroValue4 }
open Go.RowKit Go.Lib in
theorem Tryz.strings_shouldUseASCIISet (n : Int) (w : World) :
    Calls Tryz.prog 166 #[.int .i64 n] w fun e w' => e = .returned (.bool (decide (8 < n))) ∧ w' = w := Any.strings_shouldUseASCIISet Tryz.lays226 n w
def Tryz.lays153_ren : Go.Shelf.Ren := ⟨fun | 153 => 139 | 152 => 160 | 226 => 166 | 227 => 100 | 228 => 129 | 137 => 79 | 119 => 136 | 224 => 177 | 225 => 178 | 217 => 105 | 266 => 133 | n => n, fun | 9 => 9 | 3 => 3 | 4 => 4 | 5 => 5 | 21 => 21 | 117 => 144 | 116 => 143 | 0 => 0 | 46 => 227 | 124 => 147 | n => n, fun | n => n⟩
theorem Tryz.lays153 : Go.Proofs.Lays.n153 Tryz.prog Tryz.lays153_ren := {
  mixed := by kernel_rfl
  f119 := Tryz.func136.trans (congrArg some (by kernel_rfl))
  f137 := Tryz.func79.trans (congrArg some (by kernel_rfl))
  f152 := Tryz.func160.trans (congrArg some (by kernel_rfl))
  f153 := Tryz.func139.trans (congrArg some (by kernel_rfl))
  f217 := Tryz.func105.trans (congrArg some (by kernel_rfl))
  f224 := Tryz.func177.trans (congrArg some (by kernel_rfl))
  f225 := Tryz.func178.trans (congrArg some (by kernel_rfl))
  f226 := Tryz.func166.trans (congrArg some (by kernel_rfl))
  f227 := Tryz.func100.trans (congrArg some (by kernel_rfl))
  f228 := Tryz.func129.trans (congrArg some (by kernel_rfl))
  f266 := Tryz.func133.trans (congrArg some (by kernel_rfl))
  t0 := Tryz.underlying0
  a0 := Tryz.isAgg0
  z0 := Tryz.sizeOf0
  v0 := Tryz.zeroValue0
  t3 := Tryz.underlying3
  a3 := Tryz.isAgg3
  z3 := Tryz.sizeOf3
  v3 := Tryz.zeroValue3
  t4 := Tryz.underlying4
  a4 := Tryz.isAgg4
  z4 := Tryz.sizeOf4
  v4 := Tryz.zeroValue4
  t5 := Tryz.underlying5
  a5 := Tryz.isAgg5
  z5 := Tryz.sizeOf5
  v5 := Tryz.zeroValue5
  t9 := Tryz.underlying9
  a9 := Tryz.isAgg9
  z9 := Tryz.sizeOf9
  v9 := Tryz.zeroValue9
  t21 := Tryz.underlying21
  a21 := Tryz.isAgg21
  z21 := Tryz.sizeOf21
  v21 := Tryz.zeroValue21
  t46 := Tryz.underlying227
  a46 := Tryz.isAgg227
  z46 := Tryz.sizeOf227
  v46 := Tryz.zeroValue227
  t116 := Tryz.underlying143
  a116 := Tryz.isAgg143
  z116 := Tryz.sizeOf143
  t117 := Tryz.underlying144
  a117 := Tryz.isAgg144
  z117 := Tryz.sizeOf144
  v117 := Tryz.zeroValue144
  t124 := Tryz.underlying147
  a124 := Tryz.isAgg147
  z124 := Tryz.sizeOf147
  v124 := Tryz.zeroValue147 }
open Go.RowKit Go.Lib in
theorem Tryz.strings_IndexAny_long (hv116 : ∀ w, (zeroValue 143).run Tryz.prog w = .ok (.agg (Array.replicate 256 (.bool false))) w) (s chars : ByteArray) (w : World) (h2 : 2 ≤ chars.size) (h8 : 8 < s.size) (hs : s.size < 4294967281) (hcs : chars.size < 4294967281) (hascii : ∀ (j : Nat) b, chars.data.toList[j]? = some b → b.toNat < 128) :
    Calls Tryz.prog 139 #[.string s, .string chars] w fun e w' => e = .returned (.int .i64 (Lib.indexAny s.data.toList chars.data.toList)) ∧ w' = ((w.alloc (.cells (Lib.setCells chars.data.toList) 143)).alloc (.cells (Lib.setCells chars.data.toList) 143)) := Any.strings_IndexAny_long Tryz.lays153 hv116 (by kernel_rfl) s chars w h2 h8 hs hcs hascii
def Tryz.lays229_ren : Go.Shelf.Ren := ⟨fun | 229 => 90 | n => n, fun | 9 => 9 | 40 => 135 | 31 => 65 | 152 => 177 | 3 => 3 | 0 => 0 | 4 => 4 | 21 => 21 | 154 => 179 | n => n, fun | n => n⟩
theorem Tryz.lays229 : Go.Proofs.Lays.n229 Tryz.prog Tryz.lays229_ren := {
  mixed := by kernel_rfl
  f229 := Tryz.func90.trans (congrArg some (by kernel_rfl))
  t0 := Tryz.underlying0
  a0 := Tryz.isAgg0
  z0 := Tryz.sizeOf0
  v0 := Tryz.zeroValue0
  t3 := Tryz.underlying3
  a3 := Tryz.isAgg3
  z3 := Tryz.sizeOf3
  v3 := Tryz.zeroValue3
  t4 := Tryz.underlying4
  a4 := Tryz.isAgg4
  z4 := Tryz.sizeOf4
  v4 := Tryz.zeroValue4
  t9 := Tryz.underlying9
  a9 := Tryz.isAgg9
  z9 := Tryz.sizeOf9
  v9 := Tryz.zeroValue9
  t21 := Tryz.underlying21
  a21 := Tryz.isAgg21
  z21 := Tryz.sizeOf21
  v21 := Tryz.zeroValue21
  t31 := Tryz.underlying65
  a31 := Tryz.isAgg65
  z31 := Tryz.sizeOf65
  v31 := Tryz.zeroValue65
  t40 := Tryz.underlying135
  a40 := Tryz.isAgg135
  z40 := Tryz.sizeOf135
  v40 := Tryz.zeroValue135
  t152 := Tryz.underlying177
  a152 := Tryz.isAgg177
  z152 := Tryz.sizeOf177
  v152 := Tryz.zeroValue177
  t154 := Tryz.underlying179
  a154 := Tryz.isAgg179
  z154 := Tryz.sizeOf179
  v154 := Tryz.zeroValue179 }
open Go.RowKit Go.Lib in
theorem Tryz.strings_FieldsFunc_grows (g : Nat) (lb : Array Value) (eg : ∀ args w, (callFunc g args).run Tryz.prog w = .ok (.enter g args) w) (p : Nat → Bool) (s : ByteArray) (w : World) (hs : s.size ≤ 4294967296) (hp : PredGrows Tryz.prog g lb p w) :
    Calls Tryz.prog 90 #[.string s, .func (.func g) #[] lb] w fun e w' => ∃ A, e = .returned (.slice (some ⟨A, 0, none⟩) (Lib.goFieldsP p s).length (Lib.goFieldsP p s).length) ∧ w.heap.size ≤ A ∧
      w'.ownsRow w.heap.size 9 1 (.slice (some ⟨A, 0, none⟩) (Lib.goFieldsP p s).length (Lib.goFieldsP p s).length) (Lib.goFieldsP p s).length ((Lib.goFieldsP p s).map Value.string) ∧ Below w.heap.size w w' := Any.strings_FieldsFunc_grows Tryz.lays229 g lb eg p s w hs hp (by kernel_rfl) (by kernel_rfl)
def Tryz.laysT161_ren : Go.Shelf.Ren := ⟨fun | 161 => 112 | 231 => 98 | 227 => 100 | 233 => 101 | 235 => 103 | 228 => 129 | 197 => 130 | 151 => 131 | 260 => 159 | 152 => 160 | 137 => 79 | 119 => 136 | 224 => 177 | 225 => 178 | 217 => 105 | 266 => 133 | n => n, fun | 9 => 9 | 4 => 4 | 3 => 3 | 5 => 5 | 117 => 144 | 116 => 143 | 0 => 0 | 124 => 147 | 105 => 186 | 21 => 21 | 119 => 219 | 46 => 227 | 139 => 230 | 138 => 229 | n => n, fun | 3 => 1 | 4 => 2 | n => n⟩
theorem Tryz.laysT161 : Go.Proofs.Lays.n161 Tryz.prog Tryz.laysT161_ren := {
  mixed := by kernel_rfl
  f119 := Tryz.func136.trans (congrArg some (by kernel_rfl))
  f137 := Tryz.func79.trans (congrArg some (by kernel_rfl))
  f151 := Tryz.func131.trans (congrArg some (by kernel_rfl))
  f152 := Tryz.func160.trans (congrArg some (by kernel_rfl))
  f161 := Tryz.func112.trans (congrArg some (by kernel_rfl))
  f197 := Tryz.func130.trans (congrArg some (by kernel_rfl))
  f217 := Tryz.func105.trans (congrArg some (by kernel_rfl))
  f224 := Tryz.func177.trans (congrArg some (by kernel_rfl))
  f225 := Tryz.func178.trans (congrArg some (by kernel_rfl))
  f227 := Tryz.func100.trans (congrArg some (by kernel_rfl))
  f228 := Tryz.func129.trans (congrArg some (by kernel_rfl))
  f231 := Tryz.func98.trans (congrArg some (by kernel_rfl))
  f233 := Tryz.func101.trans (congrArg some (by kernel_rfl))
  f235 := Tryz.func103.trans (congrArg some (by kernel_rfl))
  f260 := Tryz.func159.trans (congrArg some (by kernel_rfl))
  f266 := Tryz.func133.trans (congrArg some (by kernel_rfl))
  t0 := Tryz.underlying0
  a0 := Tryz.isAgg0
  z0 := Tryz.sizeOf0
  v0 := Tryz.zeroValue0
  t3 := Tryz.underlying3
  a3 := Tryz.isAgg3
  z3 := Tryz.sizeOf3
  v3 := Tryz.zeroValue3
  t4 := Tryz.underlying4
  a4 := Tryz.isAgg4
  z4 := Tryz.sizeOf4
  v4 := Tryz.zeroValue4
  t5 := Tryz.underlying5
  a5 := Tryz.isAgg5
  z5 := Tryz.sizeOf5
  v5 := Tryz.zeroValue5
  t9 := Tryz.underlying9
  a9 := Tryz.isAgg9
  z9 := Tryz.sizeOf9
  v9 := Tryz.zeroValue9
  t21 := Tryz.underlying21
  a21 := Tryz.isAgg21
  z21 := Tryz.sizeOf21
  v21 := Tryz.zeroValue21
  t46 := Tryz.underlying227
  a46 := Tryz.isAgg227
  z46 := Tryz.sizeOf227
  v46 := Tryz.zeroValue227
  t105 := Tryz.underlying186
  a105 := Tryz.isAgg186
  z105 := Tryz.sizeOf186
  v105 := Tryz.zeroValue186
  t116 := Tryz.underlying143
  a116 := Tryz.isAgg143
  z116 := Tryz.sizeOf143
  t117 := Tryz.underlying144
  a117 := Tryz.isAgg144
  z117 := Tryz.sizeOf144
  v117 := Tryz.zeroValue144
  t119 := Tryz.underlying219
  a119 := Tryz.isAgg219
  z119 := Tryz.sizeOf219
  t124 := Tryz.underlying147
  a124 := Tryz.isAgg147
  z124 := Tryz.sizeOf147
  v124 := Tryz.zeroValue147
  t138 := Tryz.underlying229
  a138 := Tryz.isAgg229
  z138 := Tryz.sizeOf229
  v138 := Tryz.zeroValue229
  t139 := Tryz.underlying230
  a139 := Tryz.isAgg230
  z139 := Tryz.sizeOf230
  v139 := Tryz.zeroValue230
  g3 := by kernel_rfl
  g4 := by kernel_rfl }
def Tryz.laysT160_ren : Go.Shelf.Ren := ⟨fun | 160 => 67 | 232 => 99 | 231 => 98 | 227 => 100 | 234 => 102 | 233 => 101 | 236 => 104 | 235 => 103 | 228 => 129 | 271 => 132 | 151 => 131 | 197 => 130 | 120 => 161 | 152 => 160 | 260 => 159 | 137 => 79 | 119 => 136 | 224 => 177 | 225 => 178 | 217 => 105 | 266 => 133 | n => n, fun | 9 => 9 | 4 => 4 | 3 => 3 | 5 => 5 | 117 => 144 | 116 => 143 | 0 => 0 | 124 => 147 | 21 => 21 | 105 => 186 | 46 => 227 | 119 => 219 | 139 => 230 | 138 => 229 | n => n, fun | 3 => 1 | 4 => 2 | n => n⟩
theorem Tryz.laysT160 : Go.Proofs.Lays.n160 Tryz.prog Tryz.laysT160_ren := {
  mixed := by kernel_rfl
  f119 := Tryz.func136.trans (congrArg some (by kernel_rfl))
  f120 := Tryz.func161.trans (congrArg some (by kernel_rfl))
  f137 := Tryz.func79.trans (congrArg some (by kernel_rfl))
  f151 := Tryz.func131.trans (congrArg some (by kernel_rfl))
  f152 := Tryz.func160.trans (congrArg some (by kernel_rfl))
  f160 := Tryz.func67.trans (congrArg some (by kernel_rfl))
  f197 := Tryz.func130.trans (congrArg some (by kernel_rfl))
  f217 := Tryz.func105.trans (congrArg some (by kernel_rfl))
  f224 := Tryz.func177.trans (congrArg some (by kernel_rfl))
  f225 := Tryz.func178.trans (congrArg some (by kernel_rfl))
  f227 := Tryz.func100.trans (congrArg some (by kernel_rfl))
  f228 := Tryz.func129.trans (congrArg some (by kernel_rfl))
  f231 := Tryz.func98.trans (congrArg some (by kernel_rfl))
  f232 := Tryz.func99.trans (congrArg some (by kernel_rfl))
  f233 := Tryz.func101.trans (congrArg some (by kernel_rfl))
  f234 := Tryz.func102.trans (congrArg some (by kernel_rfl))
  f235 := Tryz.func103.trans (congrArg some (by kernel_rfl))
  f236 := Tryz.func104.trans (congrArg some (by kernel_rfl))
  f260 := Tryz.func159.trans (congrArg some (by kernel_rfl))
  f266 := Tryz.func133.trans (congrArg some (by kernel_rfl))
  f271 := Tryz.func132.trans (congrArg some (by kernel_rfl))
  t0 := Tryz.underlying0
  a0 := Tryz.isAgg0
  z0 := Tryz.sizeOf0
  v0 := Tryz.zeroValue0
  t3 := Tryz.underlying3
  a3 := Tryz.isAgg3
  z3 := Tryz.sizeOf3
  v3 := Tryz.zeroValue3
  t4 := Tryz.underlying4
  a4 := Tryz.isAgg4
  z4 := Tryz.sizeOf4
  v4 := Tryz.zeroValue4
  t5 := Tryz.underlying5
  a5 := Tryz.isAgg5
  z5 := Tryz.sizeOf5
  v5 := Tryz.zeroValue5
  t9 := Tryz.underlying9
  a9 := Tryz.isAgg9
  z9 := Tryz.sizeOf9
  v9 := Tryz.zeroValue9
  t21 := Tryz.underlying21
  a21 := Tryz.isAgg21
  z21 := Tryz.sizeOf21
  v21 := Tryz.zeroValue21
  t46 := Tryz.underlying227
  a46 := Tryz.isAgg227
  z46 := Tryz.sizeOf227
  v46 := Tryz.zeroValue227
  t105 := Tryz.underlying186
  a105 := Tryz.isAgg186
  z105 := Tryz.sizeOf186
  v105 := Tryz.zeroValue186
  t116 := Tryz.underlying143
  a116 := Tryz.isAgg143
  z116 := Tryz.sizeOf143
  t117 := Tryz.underlying144
  a117 := Tryz.isAgg144
  z117 := Tryz.sizeOf144
  v117 := Tryz.zeroValue144
  t119 := Tryz.underlying219
  a119 := Tryz.isAgg219
  z119 := Tryz.sizeOf219
  t124 := Tryz.underlying147
  a124 := Tryz.isAgg147
  z124 := Tryz.sizeOf147
  v124 := Tryz.zeroValue147
  t138 := Tryz.underlying229
  a138 := Tryz.isAgg229
  z138 := Tryz.sizeOf229
  v138 := Tryz.zeroValue229
  t139 := Tryz.underlying230
  a139 := Tryz.isAgg230
  z139 := Tryz.sizeOf230
  v139 := Tryz.zeroValue230
  g3 := by kernel_rfl
  g4 := by kernel_rfl }
open Go.RowKit in
theorem Tryz.strings_TrimLeft_laid (s cutset : ByteArray) (w : World) (hcs : cutset.size < 4294967281) (hascii : ∀ (j : Nat) b, cutset.data.toList[j]? = some b → b.toNat < 128) :
    Calls Tryz.prog 112 #[.string s, .string cutset] w fun e w' => e = .returned (.string ⟨(Lib.trimLeftS s.data.toList cutset.data.toList).toArray⟩) ∧ Below w.heap.size w w' := Any.strings_TrimLeft_laid Tryz.laysT161 (by kernel_rfl) s cutset w hcs hascii
open Go.RowKit in
theorem Tryz.strings_Trim_laid (s cutset : ByteArray) (w : World) (hs : s.size ≤ 9223372036854775807) (hcs : cutset.size < 4294967281) (hascii : ∀ (j : Nat) b, cutset.data.toList[j]? = some b → b.toNat < 128) :
    Calls Tryz.prog 67 #[.string s, .string cutset] w fun e w' => e = .returned (.string ⟨(Lib.trimS s.data.toList cutset.data.toList).toArray⟩) ∧ Below w.heap.size w w' := Any.strings_Trim_laid Tryz.laysT160 (by kernel_rfl) s cutset w hs hcs hascii
end Go.Proofs
