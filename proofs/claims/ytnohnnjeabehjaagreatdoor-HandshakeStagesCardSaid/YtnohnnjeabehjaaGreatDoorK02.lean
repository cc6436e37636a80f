/-
  Several texts joined: Shelf, IpSpec, IpFmtSpec.
-/
import Derived.Shelf.Strings.Trim
import Derived.Shelf.Small.Utf8
import Derived.Shelf.Small.Strs
import Derived.Shelf.Small.Wraps
import Derived.Shelf.Utf8.RuneCount
import Derived.Shelf.Strconv.Itoa0
import Derived.Shelf.Strconv.Itoa1
import Derived.Shelf.LaysM
import Derived.Shelf.Strconv.Itoa2
import Derived.Shelf.Strconv.Itoa3
import Derived.Shelf.Strconv.Clone
import Derived.Shelf.Strconv.SyntaxError
import Derived.Shelf.LaysC
import Derived.Shelf.Strconv.ToError
import Derived.Shelf.Strconv.Lower
import Derived.Shelf.Strconv.ParseUint10
import Derived.Shelf.Strconv.ParseUint10Empty
import Derived.Shelf.Strconv.ParseUint10Any
import Derived.Shelf.Strconv.RangeError
import Derived.Shelf.Strconv.ToErrorRange
import Derived.Shelf.Strconv.ParseUintEmpty
import Derived.Shelf.Strconv.ParseUint10b64
import Derived.Shelf.Strconv.ParseUint10b32
import Derived.Shelf.Strconv.ParseUint10b16
import Derived.Shelf.Strconv.ParseUint10b8
import Derived.Shelf.Strconv.ParseUint10At
import Derived.Ground.MpProg
import Derived.Shelf.Pu.ParseUintPublic10
import Derived.Shelf.Pu.ErrVarParseUint
import Derived.Shelf.Strings.Search1
import Derived.Shelf.Strings.Search2
import Derived.Shelf.Strings.Search3
import Derived.Shelf.Strings.Cut
import Derived.Shelf.Strings.Count
import Derived.Shelf.Strings.Shaped
import Derived.Shelf.Strings.LastIndex
import Derived.Shelf.Strings.Prefix
import Derived.Shelf.Strings.Split
import Derived.Shelf.Strings.SplitShaped
import Derived.Shelf.Unicode.Decode
import Derived.Shelf.Strings.Runes
import Derived.Shelf.Strings.RuneCount
import Derived.Shelf.Strings.AsciiSet
import Derived.Shelf.Strings.Explode
import Derived.Shelf.Unicode.DecodeSlow
import Derived.Shelf.Unicode.DecodeAny
import Derived.Shelf.Unicode.DecodeLast
import Derived.Test.YtnohnnjeabehjaaGreatDoorProg
import Derived.Lib.SplitLaws
import Derived.Lib.CutLaws
import Derived.Lib.IndexMore
import Derived.Lib.SlTrimSet
import Derived.Test.YtnohnnjeabehjaaGreatDoorK01
import Derived.Lib.ItoaNum
set_option linter.unusedVariables false
namespace Go.Proofs
open Go.Shelf
def Tryz.lays162_ren : Go.Shelf.Ren := ⟨fun | 162 => 219 | 232 => 161 | 227 => 162 | 234 => 164 | 236 => 166 | 228 => 188 | 271 => 191 | 151 => 190 | 120 => 210 | 197 => 189 | 152 => 209 | 260 => 208 | 137 => 127 | 119 => 224 | 224 => 141 | 225 => 140 | 217 => 139 | 266 => 167 | n => n, fun | 9 => 9 | 4 => 4 | 3 => 3 | 5 => 5 | 117 => 202 | 116 => 201 | 0 => 0 | 124 => 205 | 21 => 21 | 105 => 216 | 46 => 45 | 119 => 242 | 139 => 245 | 138 => 244 | n => n, fun | 3 => 4 | 4 => 5 | n => n⟩
theorem Tryz.lays162 : Go.Proofs.Lays.n162 Tryz.prog Tryz.lays162_ren := {
 mixed := by kernel_rfl
 f119 := Tryz.func224.trans (congrArg some (by kernel_rfl))
 f120 := Tryz.func210.trans (congrArg some (by kernel_rfl))
 f137 := Tryz.func127.trans (congrArg some (by kernel_rfl))
 f151 := Tryz.func190.trans (congrArg some (by kernel_rfl))
 f152 := Tryz.func209.trans (congrArg some (by kernel_rfl))
 f162 := Tryz.func219.trans (congrArg some (by kernel_rfl))
 f197 := Tryz.func189.trans (congrArg some (by kernel_rfl))
 f217 := Tryz.func139.trans (congrArg some (by kernel_rfl))
 f224 := Tryz.func141.trans (congrArg some (by kernel_rfl))
 f225 := Tryz.func140.trans (congrArg some (by kernel_rfl))
 f227 := Tryz.func162.trans (congrArg some (by kernel_rfl))
 f228 := Tryz.func188.trans (congrArg some (by kernel_rfl))
 f232 := Tryz.func161.trans (congrArg some (by kernel_rfl))
 f234 := Tryz.func164.trans (congrArg some (by kernel_rfl))
 f236 := Tryz.func166.trans (congrArg some (by kernel_rfl))
 f260 := Tryz.func208.trans (congrArg some (by kernel_rfl))
 f266 := Tryz.func167.trans (congrArg some (by kernel_rfl))
 f271 := Tryz.func191.trans (congrArg some (by kernel_rfl))
 t0 := Tryz.underlying0
 a0 := Tryz.isAgg0
 z0 := Tryz.sizeOf0
 v0 := Tryz.zeroValue0
 t3 := Tryz.underlying3
 a3 := Tryz.isAgg3
 z3 := Tryz.sizeOf3
 v3 := Tryz.zeroValue3
 t4 := Tryz.underlying4
 a4 := Tryz.isAgg4
 z4 := Tryz.sizeOf4
 v4 := Tryz.zeroValue4
 t5 := Tryz.underlying5
 a5 := Tryz.isAgg5
 z5 := Tryz.sizeOf5
 v5 := Tryz.zeroValue5
 t9 := Tryz.underlying9
 a9 := Tryz.isAgg9
 z9 := Tryz.sizeOf9
 v9 := Tryz.zeroValue9
 t21 := Tryz.underlying21
 a21 := Tryz.isAgg21
 z21 := Tryz.sizeOf21
 v21 := Tryz.zeroValue21
 t46 := Tryz.underlying45
 a46 := Tryz.isAgg45
 z46 := Tryz.sizeOf45
 v46 := Tryz.zeroValue45
 t105 := Tryz.underlying216
 a105 := Tryz.isAgg216
 z105 := Tryz.sizeOf216
 v105 := Tryz.zeroValue216
 t116 := Tryz.underlying201
 a116 := Tryz.isAgg201
 z116 := Tryz.sizeOf201
 t117 := Tryz.underlying202
 a117 := Tryz.isAgg202
 z117 := Tryz.sizeOf202
 v117 := Tryz.zeroValue202
 t119 := Tryz.underlying242
 a119 := Tryz.isAgg242
 z119 := Tryz.sizeOf242
 t124 := Tryz.underlying205
 a124 := Tryz.isAgg205
 z124 := Tryz.sizeOf205
 v124 := Tryz.zeroValue205
 t138 := Tryz.underlying244
 a138 := Tryz.isAgg244
 z138 := Tryz.sizeOf244
 v138 := Tryz.zeroValue244
 t139 := Tryz.underlying245
 a139 := Tryz.isAgg245
 z139 := Tryz.sizeOf245
 v139 := Tryz.zeroValue245
 g3 := by kernel_rfl
 g4 := by kernel_rfl }
open Go.RowKit in
/-- strings.TrimRight: "TrimRight returns a slice of the string s, with all trailing Unicode code points contained in cutset removed.": AT A cutset OF ONE ASCII BYTE. The world is as it was. (LAID: no walk: one application.) -/
theorem Tryz.strings_TrimRight_one (s : ByteArray) (c : UInt8) (hc : c.toNat < 128) (w : World) (hs : s.size <= 9223372036854775807) :
  Calls Tryz.prog 219 #[.string s, .string ⟨#[c]⟩] w fun e w' => e = .returned (.string ⟨(Lib.trimRightB s.data.toList c).toArray⟩) /\ w' = w := Any.strings_TrimRight_one Tryz.lays162 s c hc w hs
def Tryz.lays160_ren : Go.Shelf.Ren := ⟨fun | 160 => 138 | 232 => 161 | 231 => 160 | 227 => 162 | 234 => 164 | 233 => 163 | 236 => 166 | 235 => 165 | 228 => 188 | 271 => 191 | 151 => 190 | 197 => 189 | 120 => 210 | 152 => 209 | 260 => 208 | 137 => 127 | 119 => 224 | 224 => 141 | 225 => 140 | 217 => 139 | 266 => 167 | n => n, fun | 9 => 9 | 4 => 4 | 3 => 3 | 5 => 5 | 117 => 202 | 116 => 201 | 0 => 0 | 124 => 205 | 21 => 21 | 105 => 216 | 46 => 45 | 119 => 242 | 139 => 245 | 138 => 244 | n => n, fun | 3 => 4 | 4 => 5 | n => n⟩
theorem Tryz.lays160 : Go.Proofs.Lays.n160 Tryz.prog Tryz.lays160_ren := {
 mixed := by kernel_rfl
 f119 := Tryz.func224.trans (congrArg some (by kernel_rfl))
 f120 := Tryz.func210.trans (congrArg some (by kernel_rfl))
 f137 := Tryz.func127.trans (congrArg some (by kernel_rfl))
 f151 := Tryz.func190.trans (congrArg some (by kernel_rfl))
 f152 := Tryz.func209.trans (congrArg some (by kernel_rfl))
 f160 := Tryz.func138.trans (congrArg some (by kernel_rfl))
 f197 := Tryz.func189.trans (congrArg some (by kernel_rfl))
 f217 := Tryz.func139.trans (congrArg some (by kernel_rfl))
 f224 := Tryz.func141.trans (congrArg some (by kernel_rfl))
 f225 := Tryz.func140.trans (congrArg some (by kernel_rfl))
 f227 := Tryz.func162.trans (congrArg some (by kernel_rfl))
 f228 := Tryz.func188.trans (congrArg some (by kernel_rfl))
 f231 := Tryz.func160.trans (congrArg some (by kernel_rfl))
 f232 := Tryz.func161.trans (congrArg some (by kernel_rfl))
 f233 := Tryz.func163.trans (congrArg some (by kernel_rfl))
 f234 := Tryz.func164.trans (congrArg some (by kernel_rfl))
 f235 := Tryz.func165.trans (congrArg some (by kernel_rfl))
 f236 := Tryz.func166.trans (congrArg some (by kernel_rfl))
 f260 := Tryz.func208.trans (congrArg some (by kernel_rfl))
 f266 := Tryz.func167.trans (congrArg some (by kernel_rfl))
 f271 := Tryz.func191.trans (congrArg some (by kernel_rfl))
 t0 := Tryz.underlying0
 a0 := Tryz.isAgg0
 z0 := Tryz.sizeOf0
 v0 := Tryz.zeroValue0
 t3 := Tryz.underlying3
 a3 := Tryz.isAgg3
 z3 := Tryz.sizeOf3
 v3 := Tryz.zeroValue3
 t4 := Tryz.underlying4
 a4 := Tryz.isAgg4
 z4 := Tryz.sizeOf4
 v4 := Tryz.zeroValue4
 t5 := Tryz.underlying5
 a5 := Tryz.isAgg5
 z5 := Tryz.sizeOf5
 v5 := Tryz.zeroValue5
 t9 := Tryz.underlying9
 a9 := Tryz.isAgg9
 z9 := Tryz.sizeOf9
 v9 := Tryz.zeroValue9
 t21 := Tryz.underlying21
 a21 := Tryz.isAgg21
 z21 := Tryz.sizeOf21
 v21 := Tryz.zeroValue21
 t46 := Tryz.underlying45
 a46 := Tryz.isAgg45
 z46 := Tryz.sizeOf45
 v46 := Tryz.zeroValue45
 t105 := Tryz.underlying216
 a105 := Tryz.isAgg216
 z105 := Tryz.sizeOf216
 v105 := Tryz.zeroValue216
 t116 := Tryz.underlying201
 a116 := Tryz.isAgg201
 z116 := Tryz.sizeOf201
 t117 := Tryz.underlying202
 a117 := Tryz.isAgg202
 z117 := Tryz.sizeOf202
 v117 := Tryz.zeroValue202
 t119 := Tryz.underlying242
 a119 := Tryz.isAgg242
 z119 := Tryz.sizeOf242
 t124 := Tryz.underlying205
 a124 := Tryz.isAgg205
 z124 := Tryz.sizeOf205
 v124 := Tryz.zeroValue205
 t138 := Tryz.underlying244
 a138 := Tryz.isAgg244
 z138 := Tryz.sizeOf244
 v138 := Tryz.zeroValue244
 t139 := Tryz.underlying245
 a139 := Tryz.isAgg245
 z139 := Tryz.sizeOf245
 v139 := Tryz.zeroValue245
 g3 := by kernel_rfl
 g4 := by kernel_rfl }
open Go.RowKit in
/-- strings.Trim: "Trim returns a slice of the string s with all leading and trailing Unicode code points contained in cutset removed.": AT A cutset OF ONE ASCII BYTE. THE WORLD BEHIND IT: as it was, or (where s is not empty) with ONE DRAW MORE off the tape: the statement 'return trimLeftByte(trimRightByte(s, c), c)' draws its order of evaluation. (LAID: no walk: one application.) -/
theorem Tryz.strings_Trim_one (s : ByteArray) (c : UInt8) (hc : c.toNat < 128) (w : World) (hs : s.size <= 9223372036854775807) :
  Calls Tryz.prog 138 #[.string s, .string ⟨#[c]⟩] w fun e w' => e = .returned (.string ⟨(Lib.trimB s.data.toList c).toArray⟩) /\ (w' = w ∨ w' = w.drew) := Any.strings_Trim_one Tryz.lays160 s c hc w hs
def Tryz.lays137_ren : Go.Shelf.Ren := ⟨fun | 137 => 127 | 217 => 139 | 266 => 167 | n => n, fun | 9 => 9 | 5 => 5 | 3 => 3 | n => n, fun | n => n⟩
theorem Tryz.lays137 : Go.Proofs.Lays.n137 Tryz.prog Tryz.lays137_ren := {
 mixed := by kernel_rfl
 f137 := Tryz.func127.trans (congrArg some (by kernel_rfl))
 f217 := Tryz.func139.trans (congrArg some (by kernel_rfl))
 f266 := Tryz.func167.trans (congrArg some (by kernel_rfl))
 t3 := Tryz.underlying3
 a3 := Tryz.isAgg3
 z3 := Tryz.sizeOf3
 v3 := Tryz.zeroValue3
 t5 := Tryz.underlying5
 a5 := Tryz.isAgg5
 z5 := Tryz.sizeOf5
 v5 := Tryz.zeroValue5
 t9 := Tryz.underlying9
 a9 := Tryz.isAgg9
 z9 := Tryz.sizeOf9
 v9 := Tryz.zeroValue9 }
open Go.RowKit in
/-- strings.IndexByte: "IndexByte returns the index of the first instance of c in s, or -1 if c is not present in s.": IT RETURNS 'Lib.indexByte s c'; the world is as it was. (LAID: no walk: one application.) -/
theorem Tryz.strings_IndexByte (s : ByteArray) (c : Int) (w : World) :
  Calls Tryz.prog 127 #[.string s, .int .u8 c] w fun e w' => e = .returned (.int .i64 (Lib.indexByte s.data.toList c.toNat.toUInt8)) /\ w' = w := Any.strings_IndexByte Tryz.lays137 s c w
def Tryz.lays103_ren : Go.Shelf.Ren := ⟨fun | 103 => 174 | 210 => 194 | 206 => 212 | n => n, fun | 9 => 9 | 4 => 4 | 24 => 34 | 3 => 3 | n => n, fun | n => n⟩
theorem Tryz.lays103 : Go.Proofs.Lays.n103 Tryz.prog Tryz.lays103_ren := {
 mixed := by kernel_rfl
 f103 := Tryz.func174.trans (congrArg some (by kernel_rfl))
 f206 := Tryz.func212.trans (congrArg some (by kernel_rfl))
 f210 := Tryz.func194.trans (congrArg some (by kernel_rfl))
 t3 := Tryz.underlying3
 a3 := Tryz.isAgg3
 z3 := Tryz.sizeOf3
 v3 := Tryz.zeroValue3
 t4 := Tryz.underlying4
 a4 := Tryz.isAgg4
 z4 := Tryz.sizeOf4
 v4 := Tryz.zeroValue4
 t9 := Tryz.underlying9
 a9 := Tryz.isAgg9
 z9 := Tryz.sizeOf9
 v9 := Tryz.zeroValue9
 t24 := Tryz.underlying34
 a24 := Tryz.isAgg34
 z24 := Tryz.sizeOf34
 v24 := Tryz.zeroValue34 }
open Go.RowKit in
/-- strings.CutPrefix: "CutPrefix returns s without the provided leading prefix string and reports whether it found the prefix. If s doesn't start with prefix, CutPrefix returns s, false. If prefix is the empty string, CutPrefix returns s, true.": IT RETURNS '(Lib.trimPrefix s p, Lib.hasPrefix s p)'; the world is as it was. (LAID: no walk: one application.) -/
theorem Tryz.strings_CutPrefix (s p : ByteArray) (w : World) :
  Calls Tryz.prog 174 #[.string s, .string p] w fun e w' => e = .returned (.tuple #[.string ⟨(Lib.trimPrefix s.data.toList p.data.toList).toArray⟩, .bool (Lib.hasPrefix s.data.toList p.data.toList)]) /\ w' = w := Any.strings_CutPrefix Tryz.lays103 s p w
def Tryz.laysM171_ren : Go.Shelf.Ren := ⟨fun | 171 => 89 | 243 => 114 | 246 => 137 | 283 => 156 | 284 => 157 | 285 => 158 | 286 => 159 | 129 => 184 | 317 => 183 | 318 => 185 | 319 => 186 | 320 => 187 | 337 => 206 | 338 => 207 | n => n, fun | 3 => 3 | 9 => 9 | 2 => 2 | 4 => 4 | 171 => 194 | 0 => 0 | 53 => 61 | 37 => 33 | 5 => 5 | 173 => 197 | 212 => 212 | 51 => 206 | 20 => 20 | 213 => 213 | 46 => 45 | 232 => 240 | 233 => 241 | n => n, fun | 17 => 1 | 18 => 2 | 19 => 3 | n => n⟩
theorem Tryz.laysM171 : Go.Proofs.LaysM.n171 Tryz.prog Tryz.laysM171_ren := {
 mixed := by kernel_rfl
 f129 := Tryz.func184.trans (congrArg some (by kernel_rfl))
 f171 := Tryz.func89.trans (congrArg some (by kernel_rfl))
 f243 := Tryz.func114.trans (congrArg some (by kernel_rfl))
 f246 := Tryz.func137.trans (congrArg some (by kernel_rfl))
 f283 := Tryz.func156.trans (congrArg some (by kernel_rfl))
 f284 := Tryz.func157.trans (congrArg some (by kernel_rfl))
 f285 := Tryz.func158.trans (congrArg some (by kernel_rfl))
 f286 := Tryz.func159.trans (congrArg some (by kernel_rfl))
 f317 := Tryz.func183.trans (congrArg some (by kernel_rfl))
 f318 := Tryz.func185.trans (congrArg some (by kernel_rfl))
 f319 := Tryz.func186.trans (congrArg some (by kernel_rfl))
 f320 := Tryz.func187.trans (congrArg some (by kernel_rfl))
 f337 := Tryz.func206.trans (congrArg some (by kernel_rfl))
 f338 := Tryz.func207.trans (congrArg some (by kernel_rfl))
 t0 := Tryz.underlying0
 a0 := Tryz.isAgg0
 z0 := Tryz.sizeOf0
 v0 := Tryz.zeroValue0
 t2 := Tryz.underlying2
 a2 := Tryz.isAgg2
 z2 := Tryz.sizeOf2
 v2 := Tryz.zeroValue2
 t3 := Tryz.underlying3
 a3 := Tryz.isAgg3
 z3 := Tryz.sizeOf3
 v3 := Tryz.zeroValue3
 t4 := Tryz.underlying4
 a4 := Tryz.isAgg4
 z4 := Tryz.sizeOf4
 v4 := Tryz.zeroValue4
 t5 := Tryz.underlying5
 a5 := Tryz.isAgg5
 z5 := Tryz.sizeOf5
 v5 := Tryz.zeroValue5
 t9 := Tryz.underlying9
 a9 := Tryz.isAgg9
 z9 := Tryz.sizeOf9
 v9 := Tryz.zeroValue9
 t20 := Tryz.underlying20
 a20 := Tryz.isAgg20
 z20 := Tryz.sizeOf20
 v20 := Tryz.zeroValue20
 t37 := Tryz.underlying33
 a37 := Tryz.isAgg33
 z37 := Tryz.sizeOf33
 v37 := Tryz.zeroValue33
 t46 := Tryz.underlying45
 a46 := Tryz.isAgg45
 z46 := Tryz.sizeOf45
 v46 := Tryz.zeroValue45
 t51 := Tryz.underlying206
 a51 := Tryz.isAgg206
 z51 := Tryz.sizeOf206
 v51 := Tryz.zeroValue206
 t53 := Tryz.underlying61
 a53 := Tryz.isAgg61
 z53 := Tryz.sizeOf61
 v53 := Tryz.zeroValue61
 t171 := Tryz.underlying194
 a171 := Tryz.isAgg194
 z171 := Tryz.sizeOf194
 v171 := Tryz.zeroValue194
 t173 := Tryz.underlying197
 a173 := Tryz.isAgg197
 z173 := Tryz.sizeOf197
 v173 := Tryz.zeroValue197
 t212 := Tryz.underlying212
 a212 := Tryz.isAgg212
 z212 := Tryz.sizeOf212
 v212 := Tryz.zeroValue212
 t213 := Tryz.underlying213
 a213 := Tryz.isAgg213
 z213 := Tryz.sizeOf213
 t232 := Tryz.underlying240
 a232 := Tryz.isAgg240
 z232 := Tryz.sizeOf240
 v232 := Tryz.zeroValue240
 t233 := Tryz.underlying241
 a233 := Tryz.isAgg241
 z233 := Tryz.sizeOf241
 v233 := Tryz.zeroValue241
 g17 := by kernel_rfl
 g18 := by kernel_rfl
 g19 := by kernel_rfl
 i0 := by kernel_rfl
 i2 := by kernel_rfl
 i3 := by kernel_rfl
 i4 := by kernel_rfl
 i5 := by kernel_rfl
 i9 := by kernel_rfl
 i20 := by kernel_rfl
 i37 := by kernel_rfl
 i46 := by kernel_rfl
 i51 := by kernel_rfl
 i53 := by kernel_rfl
 i171 := by kernel_rfl
 i173 := by kernel_rfl
 i212 := by kernel_rfl
 i232 := by kernel_rfl
 i233 := by kernel_rfl
 m17 := by kernel_rfl
 m18 := by kernel_rfl
 m19 := by kernel_rfl }
open Go.RowKit Go.Sort Go.Lib in
/-- strconv.Itoa: "Itoa is equivalent to FormatInt(int64(i), 10).": i's DECIMAL NUMERAL ('Lib.itoa': a '-' where i is negative, then the digits), FOR EVERY int. The world behind the call: the world before it, new blocks behind the heap (the library's 'var a [24]byte'), draws. (LAID: no walk: one application.) -/
theorem Tryz.strconv_Itoa (n : Int) (h0 : -9223372036854775808 <= n) (h1 : n <= 9223372036854775807) (w : World) (htab : Lib.TabIs Tryz.prog w "internal/strconv.uint64pow10" .u64 Lib.pow10Tab) :
  Calls Tryz.prog 89 #[.int .i64 n] w fun e w' => e = .returned (.string ⟨(Lib.itoa n).toArray⟩) /\ ∃ k os, w' = grow (w.drewN k) os := Any.strconv_Itoa Tryz.laysM171 n h0 h1 w htab
def Tryz.lays144_ren : Go.Shelf.Ren := ⟨fun | 144 => 69 | 143 => 93 | 219 => 120 | 217 => 139 | 225 => 140 | 224 => 141 | 267 => 142 | 266 => 167 | 314 => 168 | n => n, fun | 9 => 9 | 4 => 4 | 3 => 3 | 5 => 5 | 46 => 45 | 146 => 207 | 51 => 206 | n => n, fun | 1 => 0 | n => n⟩
theorem Tryz.lays144 : Go.Proofs.Lays.n144 Tryz.prog Tryz.lays144_ren := {
 mixed := by kernel_rfl
 f143 := Tryz.func93.trans (congrArg some (by kernel_rfl))
 f144 := Tryz.func69.trans (congrArg some (by kernel_rfl))
 f217 := Tryz.func139.trans (congrArg some (by kernel_rfl))
 f219 := Tryz.func120.trans (congrArg some (by kernel_rfl))
 f224 := Tryz.func141.trans (congrArg some (by kernel_rfl))
 f225 := Tryz.func140.trans (congrArg some (by kernel_rfl))
 f266 := Tryz.func167.trans (congrArg some (by kernel_rfl))
 f267 := Tryz.func142.trans (congrArg some (by kernel_rfl))
 f314 := Tryz.func168.trans (congrArg some (by kernel_rfl))
 t3 := Tryz.underlying3
 a3 := Tryz.isAgg3
 z3 := Tryz.sizeOf3
 v3 := Tryz.zeroValue3
 t4 := Tryz.underlying4
 a4 := Tryz.isAgg4
 z4 := Tryz.sizeOf4
 v4 := Tryz.zeroValue4
 t5 := Tryz.underlying5
 a5 := Tryz.isAgg5
 z5 := Tryz.sizeOf5
 v5 := Tryz.zeroValue5
 t9 := Tryz.underlying9
 a9 := Tryz.isAgg9
 z9 := Tryz.sizeOf9
 v9 := Tryz.zeroValue9
 t46 := Tryz.underlying45
 a46 := Tryz.isAgg45
 z46 := Tryz.sizeOf45
 v46 := Tryz.zeroValue45
 t51 := Tryz.underlying206
 a51 := Tryz.isAgg206
 z51 := Tryz.sizeOf206
 v51 := Tryz.zeroValue206
 t146 := Tryz.underlying207
 a146 := Tryz.isAgg207
 z146 := Tryz.sizeOf207
 v146 := Tryz.zeroValue207
 g1 := by kernel_rfl }
open Go.RowKit Go.Lib in
/-- strings.Contains: "Contains reports whether substr is within s.": AT A substr OF ONE BYTE c: IT RETURNS 'decide (0 <= Lib.indexByte s c)'; the world is as it was. (LAID: no walk: one application.) -/
theorem Tryz.strings_Contains_one (s : ByteArray) (c : UInt8) (w : World) :
  Calls Tryz.prog 69 #[.string s, .string ⟨#[c]⟩] w fun e w' => e = .returned (.bool (decide (0 <= Lib.indexByte s.data.toList c))) /\ w' = w := Any.strings_Contains_one Tryz.lays144 s c w
def Tryz.lays145_ren : Go.Shelf.Ren := ⟨fun | 145 => 175 | 220 => 195 | 219 => 120 | 217 => 139 | 225 => 140 | 224 => 141 | 267 => 142 | 266 => 167 | 314 => 168 | n => n, fun | 9 => 9 | 4 => 4 | 59 => 192 | 3 => 3 | 5 => 5 | 46 => 45 | 146 => 207 | 51 => 206 | n => n, fun | 1 => 0 | n => n⟩
theorem Tryz.lays145 : Go.Proofs.Lays.n145 Tryz.prog Tryz.lays145_ren := {
 mixed := by kernel_rfl
 f145 := Tryz.func175.trans (congrArg some (by kernel_rfl))
 f217 := Tryz.func139.trans (congrArg some (by kernel_rfl))
 f219 := Tryz.func120.trans (congrArg some (by kernel_rfl))
 f220 := Tryz.func195.trans (congrArg some (by kernel_rfl))
 f224 := Tryz.func141.trans (congrArg some (by kernel_rfl))
 f225 := Tryz.func140.trans (congrArg some (by kernel_rfl))
 f266 := Tryz.func167.trans (congrArg some (by kernel_rfl))
 f267 := Tryz.func142.trans (congrArg some (by kernel_rfl))
 f314 := Tryz.func168.trans (congrArg some (by kernel_rfl))
 t3 := Tryz.underlying3
 a3 := Tryz.isAgg3
 z3 := Tryz.sizeOf3
 v3 := Tryz.zeroValue3
 t4 := Tryz.underlying4
 a4 := Tryz.isAgg4
 z4 := Tryz.sizeOf4
 v4 := Tryz.zeroValue4
 t5 := Tryz.underlying5
 a5 := Tryz.isAgg5
 z5 := Tryz.sizeOf5
 v5 := Tryz.zeroValue5
 t9 := Tryz.underlying9
 a9 := Tryz.isAgg9
 z9 := Tryz.sizeOf9
 v9 := Tryz.zeroValue9
 t46 := Tryz.underlying45
 a46 := Tryz.isAgg45
 z46 := Tryz.sizeOf45
 v46 := Tryz.zeroValue45
 t51 := Tryz.underlying206
 a51 := Tryz.isAgg206
 z51 := Tryz.sizeOf206
 v51 := Tryz.zeroValue206
 t59 := Tryz.underlying192
 a59 := Tryz.isAgg192
 z59 := Tryz.sizeOf192
 v59 := Tryz.zeroValue192
 t146 := Tryz.underlying207
 a146 := Tryz.isAgg207
 z146 := Tryz.sizeOf207
 v146 := Tryz.zeroValue207
 g1 := by kernel_rfl }
open Go.RowKit Go.Lib in
/-- strings.Cut: "Cut slices s around the first instance of sep, returning the text before and after sep. The found result reports whether sep appears in s. If sep does not appear in s, cut returns s, "", false.": IT RETURNS 'Lib.cut s sep'; the world is as it was but for the count of draws. (LAID: no walk: one application.) -/
theorem Tryz.strings_Cut (s sep : ByteArray) (m : Int) (w : World) (hs : s.size < 4294967281) (hm : w.cell? ⟨0, 0, none⟩ = some (.int .i64 m)) :
  Calls Tryz.prog 175 #[.string s, .string sep] w fun e w' => e = .returned (.tuple #[.string ⟨(Lib.cut s.data.toList sep.data.toList).1.toArray⟩, .string ⟨(Lib.cut s.data.toList sep.data.toList).2.1.toArray⟩, .bool (Lib.cut s.data.toList sep.data.toList).2.2]) /\ ∃ n, w' = w.drewN n := Any.strings_Cut Tryz.lays145 s sep m w hs hm
def Tryz.lays149_ren : Go.Shelf.Ren := ⟨fun | 149 => 196 | 222 => 213 | n => n, fun | 9 => 9 | 5 => 5 | 3 => 3 | 4 => 4 | n => n, fun | n => n⟩
theorem Tryz.lays149 : Go.Proofs.Lays.n149 Tryz.prog Tryz.lays149_ren := {
 mixed := by kernel_rfl
 f149 := Tryz.func196.trans (congrArg some (by kernel_rfl))
 f222 := Tryz.func213.trans (congrArg some (by kernel_rfl))
 t3 := Tryz.underlying3
 a3 := Tryz.isAgg3
 z3 := Tryz.sizeOf3
 v3 := Tryz.zeroValue3
 t4 := Tryz.underlying4
 a4 := Tryz.isAgg4
 z4 := Tryz.sizeOf4
 v4 := Tryz.zeroValue4
 t5 := Tryz.underlying5
 a5 := Tryz.isAgg5
 z5 := Tryz.sizeOf5
 v5 := Tryz.zeroValue5
 t9 := Tryz.underlying9
 a9 := Tryz.isAgg9
 z9 := Tryz.sizeOf9
 v9 := Tryz.zeroValue9 }
open Go.RowKit Go.Lib in
/-- strings.LastIndexByte: "LastIndexByte returns the index of the last instance of c in s, or -1 if c is not present in s." (LAID: no walk: one application.) -/
theorem Tryz.strings_LastIndexByte (s : ByteArray) (c : Int) (hs : s.size < 4611686018427387904) (w : World) :
  Calls Tryz.prog 196 #[.string s, .int .u8 c] w fun e w' => e = .returned (.int .i64 (Lib.lastIndexByte s c)) /\ w' = w := Any.strings_LastIndexByte Tryz.lays149 s c hs w
def Tryz.lays102_ren : Go.Shelf.Ren := ⟨fun | 102 => 148 | 209 => 173 | 207 => 193 | n => n, fun | 9 => 9 | 4 => 4 | 3 => 3 | n => n, fun | n => n⟩
theorem Tryz.lays102 : Go.Proofs.Lays.n102 Tryz.prog Tryz.lays102_ren := {
 mixed := by kernel_rfl
 f102 := Tryz.func148.trans (congrArg some (by kernel_rfl))
 f207 := Tryz.func193.trans (congrArg some (by kernel_rfl))
 f209 := Tryz.func173.trans (congrArg some (by kernel_rfl))
 t3 := Tryz.underlying3
 a3 := Tryz.isAgg3
 z3 := Tryz.sizeOf3
 v3 := Tryz.zeroValue3
 t4 := Tryz.underlying4
 a4 := Tryz.isAgg4
 z4 := Tryz.sizeOf4
 v4 := Tryz.zeroValue4
 t9 := Tryz.underlying9
 a9 := Tryz.isAgg9
 z9 := Tryz.sizeOf9
 v9 := Tryz.zeroValue9 }
open Go.RowKit Go.Lib in
/-- strings.TrimSuffix: "TrimSuffix returns s without the provided trailing suffix string. If s doesn't end with suffix, s is returned unchanged.": IT RETURNS 'Lib.trimSuffix s suffix'; the world is as it was. (LAID: no walk: one application.) -/
theorem Tryz.strings_TrimSuffix (s p : ByteArray) (w : World) (hs : s.size <= 9223372036854775807) :
  Calls Tryz.prog 148 #[.string s, .string p] w fun e w' => e = .returned (.string ⟨(Lib.trimSuffix s.data.toList p.data.toList).toArray⟩) /\ w' = w := Any.strings_TrimSuffix Tryz.lays102 s p w hs
def Tryz.lays146_ren : Go.Shelf.Ren := ⟨fun | 146 => 169 | 221 => 192 | 268 => 211 | 138 => 146 | 143 => 93 | 195 => 171 | 197 => 189 | 218 => 172 | 219 => 120 | 260 => 208 | 217 => 139 | 225 => 140 | 224 => 141 | 267 => 142 | 266 => 167 | 314 => 168 | n => n, fun | 9 => 9 | 31 => 124 | 3 => 3 | 4 => 4 | 0 => 0 | 105 => 216 | 21 => 21 | 5 => 5 | 46 => 45 | 119 => 242 | 139 => 245 | 138 => 244 | 146 => 207 | 51 => 206 | n => n, fun | 1 => 0 | 3 => 4 | 4 => 5 | n => n⟩
theorem Tryz.lays146 : Go.Proofs.Lays.n146 Tryz.prog Tryz.lays146_ren := {
 mixed := by kernel_rfl
 f138 := Tryz.func146.trans (congrArg some (by kernel_rfl))
 f143 := Tryz.func93.trans (congrArg some (by kernel_rfl))
 f146 := Tryz.func169.trans (congrArg some (by kernel_rfl))
 f195 := Tryz.func171.trans (congrArg some (by kernel_rfl))
 f197 := Tryz.func189.trans (congrArg some (by kernel_rfl))
 f217 := Tryz.func139.trans (congrArg some (by kernel_rfl))
 f218 := Tryz.func172.trans (congrArg some (by kernel_rfl))
 f219 := Tryz.func120.trans (congrArg some (by kernel_rfl))
 f221 := Tryz.func192.trans (congrArg some (by kernel_rfl))
 f224 := Tryz.func141.trans (congrArg some (by kernel_rfl))
 f225 := Tryz.func140.trans (congrArg some (by kernel_rfl))
 f260 := Tryz.func208.trans (congrArg some (by kernel_rfl))
 f266 := Tryz.func167.trans (congrArg some (by kernel_rfl))
 f267 := Tryz.func142.trans (congrArg some (by kernel_rfl))
 f268 := Tryz.func211.trans (congrArg some (by kernel_rfl))
 f314 := Tryz.func168.trans (congrArg some (by kernel_rfl))
 t0 := Tryz.underlying0
 a0 := Tryz.isAgg0
 z0 := Tryz.sizeOf0
 v0 := Tryz.zeroValue0
 t3 := Tryz.underlying3
 a3 := Tryz.isAgg3
 z3 := Tryz.sizeOf3
 v3 := Tryz.zeroValue3
 t4 := Tryz.underlying4
 a4 := Tryz.isAgg4
 z4 := Tryz.sizeOf4
 v4 := Tryz.zeroValue4
 t5 := Tryz.underlying5
 a5 := Tryz.isAgg5
 z5 := Tryz.sizeOf5
 v5 := Tryz.zeroValue5
 t9 := Tryz.underlying9
 a9 := Tryz.isAgg9
 z9 := Tryz.sizeOf9
 v9 := Tryz.zeroValue9
 t21 := Tryz.underlying21
 a21 := Tryz.isAgg21
 z21 := Tryz.sizeOf21
 v21 := Tryz.zeroValue21
 t31 := Tryz.underlying124
 a31 := Tryz.isAgg124
 z31 := Tryz.sizeOf124
 v31 := Tryz.zeroValue124
 t46 := Tryz.underlying45
 a46 := Tryz.isAgg45
 z46 := Tryz.sizeOf45
 v46 := Tryz.zeroValue45
 t51 := Tryz.underlying206
 a51 := Tryz.isAgg206
 z51 := Tryz.sizeOf206
 v51 := Tryz.zeroValue206
 t105 := Tryz.underlying216
 a105 := Tryz.isAgg216
 z105 := Tryz.sizeOf216
 v105 := Tryz.zeroValue216
 t119 := Tryz.underlying242
 a119 := Tryz.isAgg242
 z119 := Tryz.sizeOf242
 t138 := Tryz.underlying244
 a138 := Tryz.isAgg244
 z138 := Tryz.sizeOf244
 v138 := Tryz.zeroValue244
 t139 := Tryz.underlying245
 a139 := Tryz.isAgg245
 z139 := Tryz.sizeOf245
 v139 := Tryz.zeroValue245
 t146 := Tryz.underlying207
 a146 := Tryz.isAgg207
 z146 := Tryz.sizeOf207
 v146 := Tryz.zeroValue207
 g1 := by kernel_rfl
 g3 := by kernel_rfl
 g4 := by kernel_rfl }
open Go.RowKit Go.Lib in
/-- strings.Split. (LAID: no walk: one application.) -/
theorem Tryz.strings_Split (s sep : ByteArray) (m : Int) (w : World) (hs : s.size < 4294967281) (hm : w.cell? ⟨0, 0, none⟩ = some (.int .i64 m)) (h1 : 1 <= sep.size) :
  Calls Tryz.prog 169 #[.string s, .string sep] w fun e w' =>
   e = .returned (.slice (some ⟨w.heap.size, 0, none⟩) (Lib.countB s sep + 1) (Lib.countB s sep + 1)) /\ w' = w.alloc (.cells ((Lib.splitB sep 0 (Lib.countB s sep) s).map Value.string).toArray 9) := Any.strings_Split Tryz.lays146 (by kernel_rfl) s sep m w hs hm h1
end Go.Proofs
namespace Go.Proofs.YtnohnnjeabehjaaGreatDoor
def splitc (c : UInt8) : List UInt8 -> List (List UInt8)
 | [] => [[]]
 | x :: l => if x = c then [] :: splitc c l else match splitc c l with
  | [] => [[x]]
  | y :: ys => (x :: y) :: ys
theorem splitc_cons_ne {c x : UInt8} (h : x ≠ c) (l : List UInt8) {y : List UInt8} {ys : List (List UInt8)} (e : splitc c l = y :: ys) : splitc c (x :: l) = (x :: y) :: ys := by
 rw [splitc, if_neg h, e]
theorem splitc_none {c : UInt8} : ∀ {a : List UInt8}, (∀ x ∈ a, x ≠ c) -> splitc c a = [a]
 | [], _ => rfl
 | x :: l, h => splitc_cons_ne (h x (by simp)) l (splitc_none fun y hy => h y (by simp [hy]))
theorem splitc_hit {c : UInt8} (b : List UInt8) : ∀ {a : List UInt8}, (∀ x ∈ a, x ≠ c) -> splitc c (a ++ c :: b) = a :: splitc c b
 | [], _ => by rw [List.nil_append, splitc, if_pos rfl]
 | x :: l, h => splitc_cons_ne (h x (by simp)) _ (splitc_hit b fun y hy => h y (by simp [hy]))
def parts (c : UInt8) (s : ByteArray) : List ByteArray := (splitc c s.data.toList).map fun l => ⟨l.toArray⟩
theorem isPrefixOf_one (c : UInt8) (l : List UInt8) : ([c] : List UInt8).isPrefixOf l = (l.head? == some c) := by
 cases l with
 | nil => rfl
 | cons x l =>
  simp only [List.isPrefixOf, List.head?_cons, Bool.and_true]
  by_cases h : c = x
  ·subst h; simp
  ·rw [beq_eq_false_iff_ne.2 h, beq_eq_false_iff_ne.2 (fun e => h (Option.some.inj e).symm)]
theorem occ_one (s : List UInt8) (c : UInt8) (j : Nat) : Lib.occAt s [c] j = (s[j]? == some c) := by
 unfold Lib.occAt; rw [isPrefixOf_one, List.head?_drop]
theorem index_hit1 {s : List UInt8} {c : UInt8} {i : Nat} (h : Lib.index s [c] = i) : ∃ a b, s = a ++ c :: b /\ a.length = i /\ ∀ x ∈ a, x ≠ c := by
 rcases Lib.index_spec s [c] with ⟨h1, _⟩ | ⟨k, h1, h2, h3, h4⟩
 ·omega
 ·obtain rfl : k = i := by omega
  rw [occ_one, beq_iff_eq] at h3
  have hl : k < s.length := (List.getElem?_eq_some_iff.1 h3).1
  refine ⟨s.take k, s.drop (k + 1), ?_, by simp; omega, fun x hx e => ?_⟩
  ·have := List.getElem?_eq_some_iff.1 h3
   obtain ⟨_, e⟩ := this
   rw [← e, ← List.drop_eq_getElem_cons hl, List.take_append_drop]
  ·subst e
   obtain ⟨j, hj, e⟩ := List.mem_iff_getElem.1 hx
   have hjk : j < k := by simp at hj; omega
   have := h4 j hjk
   rw [occ_one, beq_eq_false_iff_ne] at this
   exact this (by rw [List.getElem?_eq_getElem (by omega)]; rw [List.getElem_take] at e; exact congrArg some e)
theorem index_miss1 {s : List UInt8} {c : UInt8} (h : Lib.index s [c] = -1) : ∀ x ∈ s, x ≠ c := by
 rcases Lib.index_spec s [c] with ⟨_, h2⟩ | ⟨k, h1, _⟩
 ·intro x hx e
  subst e
  obtain ⟨j, hj, e⟩ := List.mem_iff_getElem.1 hx
  have := h2 j (by omega)
  rw [occ_one, beq_eq_false_iff_ne] at this
  exact this (by rw [List.getElem?_eq_getElem hj, e])
 ·omega
theorem splitB_splitc (c : UInt8) : ∀ (n : Nat) (s : ByteArray), Lib.countB s ⟨#[c]⟩ = n -> (Lib.splitB ⟨#[c]⟩ 0 n s).map (·.data.toList) = splitc c s.data.toList
 | 0, s, hn => by
  rw [Lib.splitB_zero, List.map_singleton, splitc_none]
  rcases Lib.indexB_cases s ⟨#[c]⟩ with hix | ⟨i, hix, _⟩
  ·exact index_miss1 hix
  ·have := Lib.countB_hit s ⟨#[c]⟩ i (Nat.le_refl 1) hix; omega
 | n + 1, s, hn => by
  rcases Lib.indexB_cases s ⟨#[c]⟩ with hix | ⟨i, hix, _⟩
  ·rw [Lib.countB_miss s _ hix] at hn; omega
  ·have hc := Lib.countB_hit s ⟨#[c]⟩ i (Nat.le_refl 1) hix
   rw [Lib.splitB_hit _ _ _ _ i hix, List.map_cons, splitB_splitc c n _ (by omega), Lib.extract_from_zero, Nat.add_zero, Lib.extract_to_end]
   obtain ⟨a, b, e, el, ha⟩ := index_hit1 hix
   rw [e, splitc_hit b ha, ← el]
   simp [ByteArray.size]
theorem splitB_parts (c : UInt8) (s : ByteArray) : Lib.splitB ⟨#[c]⟩ 0 (Lib.countB s ⟨#[c]⟩) s = parts c s := by
 unfold parts
 rw [← splitB_splitc c _ s rfl, List.map_map]
 refine (List.map_id'' (fun x => ?_) _).symm
 rfl
theorem parts_length (c : UInt8) (s : ByteArray) : (parts c s).length = Lib.countB s ⟨#[c]⟩ + 1 := by
 rw [← splitB_parts, Lib.splitB_all ⟨#[c]⟩ (Nat.le_refl 1) 0 _ _ rfl]
theorem splitc_size (c : UInt8) : ∀ (l : List UInt8), ∀ x ∈ splitc c l, x.length <= l.length
 | [], x, hx => by simp [splitc] at hx; simp [hx]
 | y :: l, x, hx => by
  have ih := splitc_size c l
  rw [splitc] at hx
  split at hx
  ·rcases List.mem_cons.1 hx with rfl | h
   ·simp
   ·have := ih x h; simp; omega
  ·split at hx
   ·simp at hx; simp [hx]
   ·rename_i z zs e
    rcases List.mem_cons.1 hx with rfl | h
    ·have := ih z (by rw [e]; simp); simp; omega
    ·have := ih x (by rw [e]; simp [h]); simp; omega
theorem parts_size {c : UInt8} {s x : ByteArray} (h : x ∈ parts c s) : x.size <= s.size := by
 obtain ⟨l, hl, rfl⟩ := List.mem_map.1 h
 have := splitc_size c _ l hl
 rw [size_list, size_list]; simpa using this
def dig (x : Int) : Bool := decide (48 <= x /\ x <= 57)
def allDig (s : ByteArray) : Nat -> Bool
 | 0 => true
 | k + 1 => allDig s k && dig (B s k)
def dval (s : ByteArray) : Nat -> Int
 | 0 => 0
 | k + 1 => 10 * dval s k + (B s k - 48)
theorem dval_bd (s : ByteArray) : ∀ k, allDig s k = true -> 0 <= dval s k /\ dval s k < 10 ^ k
 | 0, _ => by simp [dval]
 | k + 1, h => by
  simp only [allDig, dig, Bool.and_eq_true, decide_eq_true_eq] at h
  have := dval_bd s k h.1
  rw [dval, Int.pow_succ]; omega
theorem dval_big (s : ByteArray) (h0 : B s 0 ≠ 48) : ∀ k, allDig s (k + 1) = true -> (10 ^ k : Int) <= dval s (k + 1)
 | 0, h => by
  simp only [allDig, dig, Bool.and_eq_true, decide_eq_true_eq] at h
  simp only [dval, Int.pow_zero]; omega
 | k + 1, h => by
  have h' := h
  simp only [allDig, dig, Bool.and_eq_true, decide_eq_true_eq] at h
  have := dval_big s h0 k (by simp only [allDig, dig, Bool.and_eq_true, decide_eq_true_eq]; exact h.1)
  rw [dval, Int.pow_succ]; omega
theorem allDig_mono (s : ByteArray) : ∀ k j, j <= k -> allDig s k = true -> allDig s j = true
 | 0, j, hj, h => by obtain rfl : j = 0 := by omega
                     exact h
 | k + 1, j, hj, h => by
  by_cases e : j = k + 1
  ·subst e; exact h
  ·simp only [allDig, Bool.and_eq_true] at h
   exact allDig_mono s k j (by omega) h.1
def numP (s : ByteArray) (lo hi : Int) : Int × Bool :=
 if s.size = 0 ∨ 9 < s.size ∨ (1 < s.size /\ B s 0 = 48) then (0, false)
 else if allDig s s.size = false then (0, false)
 else if dval s s.size < lo ∨ hi < dval s s.size then (0, false) else (dval s s.size, true)
def decP (s : ByteArray) (most : Int) : Int :=
 if s.size = 0 ∨ 6 < s.size ∨ (1 < s.size /\ B s 0 = 48) then -1
 else if allDig s s.size = false then -1
 else if most < dval s s.size then -1 else dval s s.size
theorem decP_ge (s : ByteArray) (most : Int) : -1 <= decP s most := by
 unfold decP
 split
 ·omega
 split
 ·omega
 rename_i h
 have := dval_bd s s.size (by simpa using h)
 split <;> omega
theorem decP_le (s : ByteArray) {most : Int} (h : 0 <= most) : decP s most <= most := by
 unfold decP
 (repeat' split) <;> omega
theorem numP_decP (s : ByteArray) {lo hi : Int} (h0 : 0 <= lo) (h : hi <= 999999) : numP s lo hi = if decP s hi < lo then (0, false) else (decP s hi, true) := by
 by_cases h1 : s.size = 0 ∨ 9 < s.size ∨ (1 < s.size /\ B s 0 = 48)
 ·have e : decP s hi = -1 := by unfold decP; rw [if_pos (by omega)]
  rw [e, if_pos (by omega)]; unfold numP; rw [if_pos h1]
 by_cases h3 : allDig s s.size = false
 ·have e : decP s hi = -1 := by
   unfold decP
   split
   ·rfl
   ·first | rfl | rw [if_pos h3]
  rw [e, if_pos (by omega)]; unfold numP; rw [if_neg h1, if_pos h3]
 have h3' : allDig s s.size = true := by simpa using h3
 have hb := dval_bd s s.size h3'
 have en : numP s lo hi = if dval s s.size < lo ∨ hi < dval s s.size then (0, false) else (dval s s.size, true) := by unfold numP; rw [if_neg h1, if_neg h3]
 by_cases h2 : 6 < s.size
 ·have e : decP s hi = -1 := by unfold decP; rw [if_pos (by omega)]
  rw [e, if_pos (by omega), en, if_pos]
  right
  obtain ⟨k, hk⟩ : ∃ k, s.size = k + 7 := ⟨s.size - 7, by omega⟩
  rw [hk] at h3' ⊢
  have := dval_big s (by omega) (k + 6) h3'
  have e : (10 : Int) ^ (k + 6) = 10 ^ k * 1000000 := by rw [Int.pow_add]; rfl
  have e2 : (1 : Int) <= 10 ^ k := Int.pow_pos (by decide)
  rw [e] at this
  rw [show k + 6 + 1 = k + 7 from rfl] at this
  generalize (10 : Int) ^ k = q at *
  omega
 ·have e : decP s hi = if hi < dval s s.size then -1 else dval s s.size := by unfold decP; rw [if_neg (by omega), if_neg h3]
  rw [e, en]
  by_cases h4 : hi < dval s s.size
  ·rw [if_pos (Or.inr h4), if_pos h4, if_pos (by omega)]
  ·rw [if_neg h4]
   by_cases h5 : dval s s.size < lo
   ·rw [if_pos (Or.inl h5), if_pos h5]
   ·rw [if_neg (by omega), if_neg h5]
def dec (s : ByteArray) : Int := decP s 255
theorem dec_bd (s : ByteArray) : -1 <= dec s /\ dec s <= 255 := ⟨decP_ge _ _, decP_le _ (by decide)⟩
theorem num_dec (s : ByteArray) : numP s 0 255 = if dec s < 0 then (0, false) else (dec s, true) := numP_decP s (by decide) (by decide)
def okDec (l : List ByteArray) : Bool := l.all fun x => decide (0 <= dec x)
def parse4 (s : ByteArray) : Option (List Int) :=
 if (parts 46 s).length = 4 /\ okDec (parts 46 s) = true then some ((parts 46 s).map dec) else none
def hexd (x : Int) : Int := if 48 <= x /\ x <= 57 then x - 48 else if 97 <= x /\ x <= 102 then x - 87 else if 65 <= x /\ x <= 70 then x - 55 else -1
def allHex (s : ByteArray) : Nat -> Bool
 | 0 => true
 | k + 1 => allHex s k && decide (0 <= hexd (B s k))
def hval (s : ByteArray) : Nat -> Int
 | 0 => 0
 | k + 1 => 16 * hval s k + hexd (B s k)
theorem hexd_bd (x : Int) : -1 <= hexd x /\ hexd x < 16 := by unfold hexd; (repeat' split) <;> omega
theorem hval_bd (s : ByteArray) : ∀ k, allHex s k = true -> 0 <= hval s k /\ hval s k < 16 ^ k
 | 0, _ => by simp [hval]
 | k + 1, h => by
  simp only [allHex, Bool.and_eq_true, decide_eq_true_eq] at h
  have := hval_bd s k h.1
  have := hexd_bd (B s k)
  rw [hval, Int.pow_succ]; omega
def hexg (s : ByteArray) : Int :=
 if s.size = 0 ∨ 4 < s.size then -1 else if allHex s s.size = false then -1 else hval s s.size
theorem hexg_bd (s : ByteArray) : -1 <= hexg s /\ hexg s < 65536 := by
 unfold hexg
 split
 ·omega
 split
 ·omega
 rename_i h1 h2
 have h2' : allHex s s.size = true := by simpa using h2
 have := hval_bd s s.size h2'
 have : (16 : Int) ^ s.size <= 16 ^ 4 := by
  have : s.size <= 4 := by omega
  obtain ⟨k, hk⟩ : ∃ k, 4 = s.size + k := ⟨4 - s.size, by omega⟩
  rw [hk, Int.pow_add]
  have e2 : (1 : Int) <= 16 ^ k := Int.pow_pos (by decide)
  have e3 : (0 : Int) <= 16 ^ s.size := Int.le_of_lt (Int.pow_pos (by decide))
  calc (16 : Int) ^ s.size = 16 ^ s.size * 1 := by omega
   _ <= 16 ^ s.size * 16 ^ k := Int.mul_le_mul_of_nonneg_left e2 e3
 omega
def groups (last : Bool) : List ByteArray -> Option (List Int)
 | [] => some []
 | x :: xs =>
  match (if last = true /\ xs = [] then parse4 x else none) with
  | some b => some [b.getD 0 0 * 256 + b.getD 1 0, b.getD 2 0 * 256 + b.getD 3 0]
  | none => if hexg x < 0 then none else (groups last xs).map (hexg x :: ·)
def parseG (s : ByteArray) (last : Bool) : Option (List Int) := if s.size = 0 then some [] else groups last (parts 58 s)
abbrev Adr := Bool × List Int
def zeros : List Int := [0, 0, 0, 0, 0, 0, 0, 0, 0, 0, 0, 0, 0, 0, 0, 0]
def zadr : Adr := (false, zeros)
def hilo (l : List Int) : List Int := l.flatMap fun x => [x / 256, x % 256]
def v6 (l : List Int) : Adr × Bool := if l.length = 8 then ((true, hilo l), true) else (zadr, false)
def v4 (a b c d : Int) : Adr := (false, [a, b, c, d, 0, 0, 0, 0, 0, 0, 0, 0, 0, 0, 0, 0])
def cutAt (s : ByteArray) : Int := Lib.index s.data.toList [58, 58]
def parseA (s : ByteArray) : Adr × Bool :=
 match parse4 s with
 | some b => (v4 (b.getD 0 0) (b.getD 1 0) (b.getD 2 0) (b.getD 3 0), true)
 | none =>
  if cutAt s < 0 then
   match parseG s true with
   | some l => v6 l
   | none => (zadr, false)
  else
   match parseG (s.extract 0 (cutAt s).toNat) false, parseG (s.extract ((cutAt s).toNat + 2) s.size) true with
   | some l, some m => if 7 < l.length + m.length then (zadr, false) else v6 (l ++ List.replicate (8 - (l.length + m.length)) 0 ++ m)
   | _, _ => (zadr, false)
def grp (l : List Int) (i : Nat) : Int := l.getD (2 * i) 0 * 256 + l.getD (2 * i + 1) 0
def zrun (l : List Int) : Nat -> Nat -> Nat
 | 0, _ => 0
 | f + 1, i => if grp l i = 0 then zrun l f (i + 1) + 1 else 0
def zr (l : List Int) (i : Nat) : Nat := zrun l (8 - i) i
def best (l : List Int) : Nat -> Int × Int
 | 0 => (-1, 1)
 | i + 1 => if (best l i).2 < zr l i then (i, zr l i) else best l i
def hexc (n : Nat) : UInt8 := if n < 10 then UInt8.ofNat (48 + n) else UInt8.ofNat (87 + n)
def hexT (n : Nat) : List UInt8 := if h : n < 16 then [hexc n] else hexT (n / 16) ++ [hexc (n % 16)]
termination_by n
decreasing_by omega
def tail6 (l : List Int) (f m : Int) : Nat -> Nat -> List UInt8
 | 0, _ => []
 | k + 1, i => if 8 <= i then [] else if (i : Int) = f then [58, 58] ++ tail6 l f m k (i + m.toNat)
  else (if 0 < i /\ (i : Int) ≠ f + m then [58] else []) ++ hexT (grp l i).toNat ++ tail6 l f m k (i + 1)
def validA (a : Adr) : Bool := a.1 || (a.2.drop 4).all fun x => decide (x = 0)
def fmt4 (l : List Int) : List UInt8 :=
 Lib.decDigits (l.getD 0 0).toNat ++ [46] ++ Lib.decDigits (l.getD 1 0).toNat ++ [46] ++ Lib.decDigits (l.getD 2 0).toNat ++ [46] ++ Lib.decDigits (l.getD 3 0).toNat
def fmt6 (l : List Int) : List UInt8 := tail6 l (best l 8).1 (best l 8).2 9 0
def fmtA (a : Adr) : List UInt8 := if validA a = false then [] else if a.1 then fmt6 a.2 else fmt4 a.2
def txt (l : List UInt8) : ByteArray := ⟨l.toArray⟩
end Go.Proofs.YtnohnnjeabehjaaGreatDoor
