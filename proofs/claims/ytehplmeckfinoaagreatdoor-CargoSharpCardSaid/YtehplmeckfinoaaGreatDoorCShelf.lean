/- Contracts of library functions, laid by the kit at this seat (the kit's tool printed them). -/
import Derived.Shelf.Strings.Builder1
import Derived.Shelf.Strings.Builder2
import Derived.Shelf.Strings.OnBuilder
import Derived.Shelf.Small.Bits
import Derived.Shelf.Small.Wraps
import Derived.Shelf.Strings.BuilderF
import Derived.Shelf.Strings.BuilderK
import Derived.Shelf.Utf8.RuneCount
import Derived.Shelf.Strings.Builder2Cap
import Derived.Shelf.Strconv.Atoi
import Derived.Shelf.Strconv.Itoa0
import Derived.Shelf.Strconv.Itoa1
import Derived.Shelf.LaysM
import Derived.Shelf.Strconv.Itoa2
import Derived.Shelf.Strconv.Itoa3
import Derived.Shelf.Strconv.AtoiErrFast
import Derived.Shelf.Strconv.ParseIntEmpty
import Derived.Shelf.Strconv.AtoiFail
import Derived.Shelf.Strconv.Clone
import Derived.Shelf.Strconv.SyntaxError
import Derived.Shelf.LaysC
import Derived.Shelf.Strconv.ToError
import Derived.Shelf.Strconv.Lower
import Derived.Shelf.Strconv.ParseUint10
import Derived.Shelf.Strconv.ParseUint10Empty
import Derived.Shelf.Strconv.ParseUint10Any
import Derived.Shelf.Strconv.ParseInt10
import Derived.Shelf.Strconv.AtoiLong
import Derived.Shelf.Strconv.AtoiInnerAll
import Derived.Shelf.Strconv.RangeError
import Derived.Shelf.Strconv.ToErrorRange
import Derived.Shelf.Strconv.AtoiAll
import Derived.Shelf.Strconv.ParseUintEmpty
import Derived.Shelf.Strconv.ParseUint10b64
import Derived.Shelf.Strconv.ParseUint10b32
import Derived.Shelf.Strconv.ParseUint10b16
import Derived.Shelf.Strconv.ParseUint10b8
import Derived.Shelf.Strings.Search1
import Derived.Shelf.Strings.Search2
import Derived.Shelf.Strings.Search3
import Derived.Shelf.Strings.Count
import Derived.Shelf.Strings.Shaped
import Derived.Shelf.Sort.Plain
import Derived.Shelf.Strings.Split
import Derived.Shelf.Strings.SplitShaped
import Derived.Shelf.Unicode.Decode
import Derived.Shelf.Strings.RuneCount
import Derived.Shelf.Strings.Explode
import Derived.Shelf.Unicode.DecodeSlow
import Derived.Shelf.Unicode.DecodeAny
import Derived.Shelf.Slices.Turned
import Derived.Shelf.Slices.Reverse
import Derived.Shelf.Slices.Equal
import Derived.Ground.Names2Prog
import Derived.Shelf.Slices.Clone
import Derived.Shelf.Slices.SearchI
import Derived.Shelf.Slices.Cells
import Derived.Shelf.Slices.In.SortNone
import Derived.Shelf.Slices.Empties2
import Derived.Ground.SlgnProg
import Derived.Shelf.SlicesE.Reverse
import Derived.Shelf.SlicesE.Clone
import Derived.Test.YtehplmeckfinoaaGreatDoorProg
set_option linter.unusedSimpArgs false
set_option linter.unusedVariables false
namespace Go.Proofs
open Go.RowKit Go.Sort Go.Lib
def Tryz.lays156_ren : Go.Shelf.Ren := ⟨fun | 156 => 95 | 165 => 119 | 166 => 120 | 169 => 121 | 240 => 136 | 241 => 137 | 276 => 168 | 277 => 169 | n => n, fun | 31 => 85 | 9 => 9 | 3 => 3 | 4 => 4 | 0 => 0 | 20 => 20 | 72 => 159 | 76 => 153 | 70 => 156 | 37 => 157 | 75 => 152 | 127 => 177 | 164 => 203 | 5 => 5 | 80 => 135 | n => n, fun | n => n⟩
theorem Tryz.lays156 : Go.Proofs.Lays.n156 Tryz.prog Tryz.lays156_ren := {
 mixed := by kernel_rfl
 f156 := Tryz.func95.trans (congrArg some (by kernel_rfl))
 f165 := Tryz.func119.trans (congrArg some (by kernel_rfl))
 f166 := Tryz.func120.trans (congrArg some (by kernel_rfl))
 f169 := Tryz.func121.trans (congrArg some (by kernel_rfl))
 f240 := Tryz.func136.trans (congrArg some (by kernel_rfl))
 f241 := Tryz.func137.trans (congrArg some (by kernel_rfl))
 f276 := Tryz.func168.trans (congrArg some (by kernel_rfl))
 f277 := Tryz.func169.trans (congrArg some (by kernel_rfl))
 t0 := Tryz.underlying0
 a0 := Tryz.isAgg0
 z0 := Tryz.sizeOf0
 v0 := Tryz.zeroValue0
 t3 := Tryz.underlying3
 a3 := Tryz.isAgg3
 z3 := Tryz.sizeOf3
 v3 := Tryz.zeroValue3
 t4 := Tryz.underlying4
 a4 := Tryz.isAgg4
 z4 := Tryz.sizeOf4
 v4 := Tryz.zeroValue4
 t9 := Tryz.underlying9
 a9 := Tryz.isAgg9
 z9 := Tryz.sizeOf9
 v9 := Tryz.zeroValue9
 t20 := Tryz.underlying20
 a20 := Tryz.isAgg20
 z20 := Tryz.sizeOf20
 v20 := Tryz.zeroValue20
 t31 := Tryz.underlying85
 a31 := Tryz.isAgg85
 z31 := Tryz.sizeOf85
 v31 := Tryz.zeroValue85
 t37 := Tryz.underlying157
 a37 := Tryz.isAgg157
 z37 := Tryz.sizeOf157
 v37 := Tryz.zeroValue157
 t70 := Tryz.underlying156
 a70 := Tryz.isAgg156
 z70 := Tryz.sizeOf156
 v70 := Tryz.zeroValue156
 t72 := Tryz.underlying159
 a72 := Tryz.isAgg159
 z72 := Tryz.sizeOf159
 v72 := Tryz.zeroValue159
 t75 := Tryz.underlying152
 a75 := Tryz.isAgg152
 z75 := Tryz.sizeOf152
 v75 := Tryz.zeroValue152
 t76 := Tryz.underlying153
 a76 := Tryz.isAgg153
 z76 := Tryz.sizeOf153
 v76 := Tryz.zeroValue153
 t127 := Tryz.underlying177
 a127 := Tryz.isAgg177
 z127 := Tryz.sizeOf177
 v127 := Tryz.zeroValue177
 t164 := Tryz.underlying203
 a164 := Tryz.isAgg203
 z164 := Tryz.sizeOf203
 v164 := Tryz.zeroValue203 }
theorem Tryz.Builder_Extra_156 : Builder.Extra Tryz.prog Tryz.lays156_ren := {
 sizeBuilder := by kernel_rfl
 liesBuilder := by kernel_rfl
 t5 := Tryz.underlying5
 a5 := Tryz.isAgg5
 z5 := Tryz.sizeOf5
 v5 := Tryz.zeroValue5
 infoByte := by kernel_rfl
 cellsByte := by kernel_rfl
 sizeByte := by kernel_rfl
 neB5 := by decide }
theorem Tryz.strings_Join_none (a : Option Addr) (c : Nat) (sep : ByteArray) (w : World) :
 Calls Tryz.prog 95 #[.slice a 0 c, .string sep] w fun e w' => e = .returned (.string ⟨#[]⟩) ∧ w' = w := Any.strings_Join_none Tryz.lays156 Tryz.Builder_Extra_156 a c sep w
theorem Tryz.strings_Join (bk o c : Nat) (xs : List ByteArray) (sep : ByteArray) (w : World) (hcells : ∀ (j : Nat) x, xs[j]? = some x → w.cell? ⟨bk, o + j, none⟩ = some (.string x)) (hbk : bk < w.heap.size) (hN : xs.length ≤ 140737488355328) (hcap : xs.length ≤ c) (hlen : (Lib.join (xs.map (·.data.toList)) sep.data.toList).length ≤ 140737488355328) :
 Calls Tryz.prog 95 #[.slice (some ⟨bk, o, none⟩) xs.length c, .string sep] w fun e w' => e = .returned (.string ⟨(Lib.join (xs.map (·.data.toList)) sep.data.toList).toArray⟩) ∧ Below w.heap.size w w' := Any.strings_Join Tryz.lays156 Tryz.Builder_Extra_156 bk o c xs sep w hcells hbk hN hcap hlen
def Tryz.lays122_ren : Go.Shelf.Ren := ⟨fun | 122 => 125 | 215 => 139 | n => n, fun | 3 => 3 | 4 => 4 | n => n, fun | n => n⟩
theorem Tryz.lays122 : Go.Proofs.Lays.n122 Tryz.prog Tryz.lays122_ren := {
 mixed := by kernel_rfl
 f122 := Tryz.func125.trans (congrArg some (by kernel_rfl))
 f215 := Tryz.func139.trans (congrArg some (by kernel_rfl))
 t3 := Tryz.underlying3
 a3 := Tryz.isAgg3
 z3 := Tryz.sizeOf3
 v3 := Tryz.zeroValue3
 t4 := Tryz.underlying4
 a4 := Tryz.isAgg4
 z4 := Tryz.sizeOf4
 v4 := Tryz.zeroValue4 }
theorem Tryz.cmp_Compare_int (x y : Int) (w : World) :
 Calls Tryz.prog 125 #[.int .i64 x, .int .i64 y] w fun e w' => e = .returned (.int .i64 (Lib.compareInt x y)) ∧ w' = w := Any.cmp_Compare_int Tryz.lays122 x y w
def Tryz.laysM171_ren : Go.Shelf.Ren := ⟨fun | 171 => 94 | 243 => 118 | 246 => 135 | 283 => 164 | 284 => 165 | 285 => 166 | 286 => 167 | 129 => 157 | 317 => 192 | 318 => 193 | 319 => 194 | 320 => 195 | 337 => 203 | 338 => 204 | n => n, fun | 3 => 3 | 9 => 9 | 2 => 2 | 4 => 4 | 171 => 199 | 0 => 0 | 53 => 190 | 37 => 157 | 5 => 5 | 173 => 201 | 212 => 226 | 51 => 188 | 20 => 20 | 213 => 227 | 46 => 173 | 232 => 242 | 233 => 243 | n => n, fun | 17 => 3 | 18 => 6 | 19 => 7 | n => n⟩
theorem Tryz.laysM171 : Go.Proofs.LaysM.n171 Tryz.prog Tryz.laysM171_ren := {
 mixed := by kernel_rfl
 f129 := Tryz.func157.trans (congrArg some (by kernel_rfl))
 f171 := Tryz.func94.trans (congrArg some (by kernel_rfl))
 f243 := Tryz.func118.trans (congrArg some (by kernel_rfl))
 f246 := Tryz.func135.trans (congrArg some (by kernel_rfl))
 f283 := Tryz.func164.trans (congrArg some (by kernel_rfl))
 f284 := Tryz.func165.trans (congrArg some (by kernel_rfl))
 f285 := Tryz.func166.trans (congrArg some (by kernel_rfl))
 f286 := Tryz.func167.trans (congrArg some (by kernel_rfl))
 f317 := Tryz.func192.trans (congrArg some (by kernel_rfl))
 f318 := Tryz.func193.trans (congrArg some (by kernel_rfl))
 f319 := Tryz.func194.trans (congrArg some (by kernel_rfl))
 f320 := Tryz.func195.trans (congrArg some (by kernel_rfl))
 f337 := Tryz.func203.trans (congrArg some (by kernel_rfl))
 f338 := Tryz.func204.trans (congrArg some (by kernel_rfl))
 t0 := Tryz.underlying0
 a0 := Tryz.isAgg0
 z0 := Tryz.sizeOf0
 v0 := Tryz.zeroValue0
 t2 := Tryz.underlying2
 a2 := Tryz.isAgg2
 z2 := Tryz.sizeOf2
 v2 := Tryz.zeroValue2
 t3 := Tryz.underlying3
 a3 := Tryz.isAgg3
 z3 := Tryz.sizeOf3
 v3 := Tryz.zeroValue3
 t4 := Tryz.underlying4
 a4 := Tryz.isAgg4
 z4 := Tryz.sizeOf4
 v4 := Tryz.zeroValue4
 t5 := Tryz.underlying5
 a5 := Tryz.isAgg5
 z5 := Tryz.sizeOf5
 v5 := Tryz.zeroValue5
 t9 := Tryz.underlying9
 a9 := Tryz.isAgg9
 z9 := Tryz.sizeOf9
 v9 := Tryz.zeroValue9
 t20 := Tryz.underlying20
 a20 := Tryz.isAgg20
 z20 := Tryz.sizeOf20
 v20 := Tryz.zeroValue20
 t37 := Tryz.underlying157
 a37 := Tryz.isAgg157
 z37 := Tryz.sizeOf157
 v37 := Tryz.zeroValue157
 t46 := Tryz.underlying173
 a46 := Tryz.isAgg173
 z46 := Tryz.sizeOf173
 v46 := Tryz.zeroValue173
 t51 := Tryz.underlying188
 a51 := Tryz.isAgg188
 z51 := Tryz.sizeOf188
 v51 := Tryz.zeroValue188
 t53 := Tryz.underlying190
 a53 := Tryz.isAgg190
 z53 := Tryz.sizeOf190
 v53 := Tryz.zeroValue190
 t171 := Tryz.underlying199
 a171 := Tryz.isAgg199
 z171 := Tryz.sizeOf199
 v171 := Tryz.zeroValue199
 t173 := Tryz.underlying201
 a173 := Tryz.isAgg201
 z173 := Tryz.sizeOf201
 v173 := Tryz.zeroValue201
 t212 := Tryz.underlying226
 a212 := Tryz.isAgg226
 z212 := Tryz.sizeOf226
 v212 := Tryz.zeroValue226
 t213 := Tryz.underlying227
 a213 := Tryz.isAgg227
 z213 := Tryz.sizeOf227
 t232 := Tryz.underlying242
 a232 := Tryz.isAgg242
 z232 := Tryz.sizeOf242
 v232 := Tryz.zeroValue242
 t233 := Tryz.underlying243
 a233 := Tryz.isAgg243
 z233 := Tryz.sizeOf243
 v233 := Tryz.zeroValue243
 g17 := by kernel_rfl
 g18 := by kernel_rfl
 g19 := by kernel_rfl
 i0 := by kernel_rfl
 i2 := by kernel_rfl
 i3 := by kernel_rfl
 i4 := by kernel_rfl
 i5 := by kernel_rfl
 i9 := by kernel_rfl
 i20 := by kernel_rfl
 i37 := by kernel_rfl
 i46 := by kernel_rfl
 i51 := by kernel_rfl
 i53 := by kernel_rfl
 i171 := by kernel_rfl
 i173 := by kernel_rfl
 i212 := by kernel_rfl
 i232 := by kernel_rfl
 i233 := by kernel_rfl
 m17 := by kernel_rfl
 m18 := by kernel_rfl
 m19 := by kernel_rfl }
theorem Tryz.strconv_Itoa (n : Int) (h0 : -9223372036854775808 ≤ n) (h1 : n ≤ 9223372036854775807) (w : World) (htab : Lib.TabIs Tryz.prog w "internal/strconv.uint64pow10" .u64 Lib.pow10Tab) :
 Calls Tryz.prog 94 #[.int .i64 n] w fun e w' => e = .returned (.string ⟨(Lib.itoa n).toArray⟩) ∧ ∃ k os, w' = grow (w.drewN k) os := Any.strconv_Itoa Tryz.laysM171 n h0 h1 w htab
def Tryz.lays171_ren : Go.Shelf.Ren := ⟨fun | 171 => 94 | 243 => 118 | 246 => 135 | 283 => 164 | 284 => 165 | 285 => 166 | 286 => 167 | 129 => 157 | 317 => 192 | 318 => 193 | 319 => 194 | 320 => 195 | 337 => 203 | 338 => 204 | n => n, fun | 3 => 3 | 9 => 9 | 2 => 2 | 4 => 4 | 171 => 199 | 0 => 0 | 53 => 190 | 37 => 157 | 5 => 5 | 173 => 201 | 212 => 226 | 51 => 188 | 20 => 20 | 213 => 227 | 46 => 173 | 232 => 242 | 233 => 243 | n => n, fun | 17 => 3 | 18 => 6 | 19 => 7 | n => n⟩
theorem Tryz.lays171 : Go.Proofs.Lays.n171 Tryz.prog Tryz.lays171_ren := {
 mixed := by kernel_rfl
 f129 := Tryz.func157.trans (congrArg some (by kernel_rfl))
 f171 := Tryz.func94.trans (congrArg some (by kernel_rfl))
 f243 := Tryz.func118.trans (congrArg some (by kernel_rfl))
 f246 := Tryz.func135.trans (congrArg some (by kernel_rfl))
 f283 := Tryz.func164.trans (congrArg some (by kernel_rfl))
 f284 := Tryz.func165.trans (congrArg some (by kernel_rfl))
 f285 := Tryz.func166.trans (congrArg some (by kernel_rfl))
 f286 := Tryz.func167.trans (congrArg some (by kernel_rfl))
 f317 := Tryz.func192.trans (congrArg some (by kernel_rfl))
 f318 := Tryz.func193.trans (congrArg some (by kernel_rfl))
 f319 := Tryz.func194.trans (congrArg some (by kernel_rfl))
 f320 := Tryz.func195.trans (congrArg some (by kernel_rfl))
 f337 := Tryz.func203.trans (congrArg some (by kernel_rfl))
 f338 := Tryz.func204.trans (congrArg some (by kernel_rfl))
 t0 := Tryz.underlying0
 a0 := Tryz.isAgg0
 z0 := Tryz.sizeOf0
 v0 := Tryz.zeroValue0
 t2 := Tryz.underlying2
 a2 := Tryz.isAgg2
 z2 := Tryz.sizeOf2
 v2 := Tryz.zeroValue2
 t3 := Tryz.underlying3
 a3 := Tryz.isAgg3
 z3 := Tryz.sizeOf3
 v3 := Tryz.zeroValue3
 t4 := Tryz.underlying4
 a4 := Tryz.isAgg4
 z4 := Tryz.sizeOf4
 v4 := Tryz.zeroValue4
 t5 := Tryz.underlying5
 a5 := Tryz.isAgg5
 z5 := Tryz.sizeOf5
 v5 := Tryz.zeroValue5
 t9 := Tryz.underlying9
 a9 := Tryz.isAgg9
 z9 := Tryz.sizeOf9
 v9 := Tryz.zeroValue9
 t20 := Tryz.underlying20
 a20 := Tryz.isAgg20
 z20 := Tryz.sizeOf20
 v20 := Tryz.zeroValue20
 t37 := Tryz.underlying157
 a37 := Tryz.isAgg157
 z37 := Tryz.sizeOf157
 v37 := Tryz.zeroValue157
 t46 := Tryz.underlying173
 a46 := Tryz.isAgg173
 z46 := Tryz.sizeOf173
 v46 := Tryz.zeroValue173
 t51 := Tryz.underlying188
 a51 := Tryz.isAgg188
 z51 := Tryz.sizeOf188
 v51 := Tryz.zeroValue188
 t53 := Tryz.underlying190
 a53 := Tryz.isAgg190
 z53 := Tryz.sizeOf190
 v53 := Tryz.zeroValue190
 t171 := Tryz.underlying199
 a171 := Tryz.isAgg199
 z171 := Tryz.sizeOf199
 v171 := Tryz.zeroValue199
 t173 := Tryz.underlying201
 a173 := Tryz.isAgg201
 z173 := Tryz.sizeOf201
 v173 := Tryz.zeroValue201
 t212 := Tryz.underlying226
 a212 := Tryz.isAgg226
 z212 := Tryz.sizeOf226
 v212 := Tryz.zeroValue226
 t213 := Tryz.underlying227
 a213 := Tryz.isAgg227
 z213 := Tryz.sizeOf227
 t232 := Tryz.underlying242
 a232 := Tryz.isAgg242
 z232 := Tryz.sizeOf242
 v232 := Tryz.zeroValue242
 t233 := Tryz.underlying243
 a233 := Tryz.isAgg243
 z233 := Tryz.sizeOf243
 v233 := Tryz.zeroValue243
 g17 := by kernel_rfl
 g18 := by kernel_rfl
 g19 := by kernel_rfl }
theorem Tryz.strconv_Itoa_small (i : Nat) (hi : i < 100) (w : World) :
 Calls Tryz.prog 94 #[.int .i64 i] w fun e w' => e = .returned (.string ⟨(Lib.decDigits i).toArray⟩) ∧ w' = w := Any.strconv_Itoa_small Tryz.lays171 i hi w
def Tryz.laysC172_ren : Go.Shelf.Ren := ⟨fun | 172 => 115 | 244 => 133 | 245 => 134 | 247 => 159 | 279 => 160 | 280 => 161 | 281 => 162 | 282 => 163 | 287 => 189 | 316 => 190 | 171 => 94 | 205 => 191 | 321 => 201 | 322 => 202 | 243 => 118 | 246 => 135 | 283 => 164 | 284 => 165 | 285 => 166 | 286 => 167 | 129 => 157 | 317 => 192 | 318 => 193 | 319 => 194 | 320 => 195 | 337 => 203 | 338 => 204 | n => n, fun | 9 => 9 | 3 => 3 | 75 => 152 | 76 => 153 | 4 => 4 | 5 => 5 | 167 => 193 | 37 => 157 | 0 => 0 | 85 => 194 | 2 => 2 | 168 => 196 | 53 => 190 | 175 => 219 | 46 => 173 | 210 => 223 | 127 => 177 | 145 => 240 | 143 => 238 | 21 => 21 | 171 => 199 | 173 => 201 | 212 => 226 | 51 => 188 | 20 => 20 | 213 => 227 | 232 => 242 | 233 => 243 | 80 => 135 | n => n, fun | 15 => 1 | 16 => 2 | 17 => 3 | 18 => 6 | 19 => 7 | n => n⟩
theorem Tryz.laysC172 : Go.Proofs.LaysC.n172 Tryz.prog Tryz.laysC172_ren := {
 mixed := by kernel_rfl
 f129 := Tryz.func157.trans (congrArg some (by kernel_rfl))
 f171 := Tryz.func94.trans (congrArg some (by kernel_rfl))
 f172 := Tryz.func115.trans (congrArg some (by kernel_rfl))
 f205 := Tryz.func191.trans (congrArg some (by kernel_rfl))
 f243 := Tryz.func118.trans (congrArg some (by kernel_rfl))
 f244 := Tryz.func133.trans (congrArg some (by kernel_rfl))
 f245 := Tryz.func134.trans (congrArg some (by kernel_rfl))
 f246 := Tryz.func135.trans (congrArg some (by kernel_rfl))
 f247 := Tryz.func159.trans (congrArg some (by kernel_rfl))
 f279 := Tryz.func160.trans (congrArg some (by kernel_rfl))
 f280 := Tryz.func161.trans (congrArg some (by kernel_rfl))
 f281 := Tryz.func162.trans (congrArg some (by kernel_rfl))
 f282 := Tryz.func163.trans (congrArg some (by kernel_rfl))
 f283 := Tryz.func164.trans (congrArg some (by kernel_rfl))
 f284 := Tryz.func165.trans (congrArg some (by kernel_rfl))
 f285 := Tryz.func166.trans (congrArg some (by kernel_rfl))
 f286 := Tryz.func167.trans (congrArg some (by kernel_rfl))
 f287 := Tryz.func189.trans (congrArg some (by kernel_rfl))
 f316 := Tryz.func190.trans (congrArg some (by kernel_rfl))
 f317 := Tryz.func192.trans (congrArg some (by kernel_rfl))
 f318 := Tryz.func193.trans (congrArg some (by kernel_rfl))
 f319 := Tryz.func194.trans (congrArg some (by kernel_rfl))
 f320 := Tryz.func195.trans (congrArg some (by kernel_rfl))
 f321 := Tryz.func201.trans (congrArg some (by kernel_rfl))
 f322 := Tryz.func202.trans (congrArg some (by kernel_rfl))
 f337 := Tryz.func203.trans (congrArg some (by kernel_rfl))
 f338 := Tryz.func204.trans (congrArg some (by kernel_rfl))
 t0 := Tryz.underlying0
 a0 := Tryz.isAgg0
 z0 := Tryz.sizeOf0
 v0 := Tryz.zeroValue0
 t2 := Tryz.underlying2
 a2 := Tryz.isAgg2
 z2 := Tryz.sizeOf2
 v2 := Tryz.zeroValue2
 t3 := Tryz.underlying3
 a3 := Tryz.isAgg3
 z3 := Tryz.sizeOf3
 v3 := Tryz.zeroValue3
 t4 := Tryz.underlying4
 a4 := Tryz.isAgg4
 z4 := Tryz.sizeOf4
 v4 := Tryz.zeroValue4
 t5 := Tryz.underlying5
 a5 := Tryz.isAgg5
 z5 := Tryz.sizeOf5
 v5 := Tryz.zeroValue5
 t9 := Tryz.underlying9
 a9 := Tryz.isAgg9
 z9 := Tryz.sizeOf9
 v9 := Tryz.zeroValue9
 t20 := Tryz.underlying20
 a20 := Tryz.isAgg20
 z20 := Tryz.sizeOf20
 v20 := Tryz.zeroValue20
 t21 := Tryz.underlying21
 a21 := Tryz.isAgg21
 z21 := Tryz.sizeOf21
 v21 := Tryz.zeroValue21
 t37 := Tryz.underlying157
 a37 := Tryz.isAgg157
 z37 := Tryz.sizeOf157
 v37 := Tryz.zeroValue157
 t46 := Tryz.underlying173
 a46 := Tryz.isAgg173
 z46 := Tryz.sizeOf173
 v46 := Tryz.zeroValue173
 t51 := Tryz.underlying188
 a51 := Tryz.isAgg188
 z51 := Tryz.sizeOf188
 v51 := Tryz.zeroValue188
 t53 := Tryz.underlying190
 a53 := Tryz.isAgg190
 z53 := Tryz.sizeOf190
 v53 := Tryz.zeroValue190
 t75 := Tryz.underlying152
 a75 := Tryz.isAgg152
 z75 := Tryz.sizeOf152
 v75 := Tryz.zeroValue152
 t76 := Tryz.underlying153
 a76 := Tryz.isAgg153
 z76 := Tryz.sizeOf153
 v76 := Tryz.zeroValue153
 t85 := Tryz.underlying194
 a85 := Tryz.isAgg194
 z85 := Tryz.sizeOf194
 v85 := Tryz.zeroValue194
 t127 := Tryz.underlying177
 a127 := Tryz.isAgg177
 z127 := Tryz.sizeOf177
 v127 := Tryz.zeroValue177
 t143 := Tryz.underlying238
 a143 := Tryz.isAgg238
 z143 := Tryz.sizeOf238
 v143 := Tryz.zeroValue238
 t145 := Tryz.underlying240
 a145 := Tryz.isAgg240
 z145 := Tryz.sizeOf240
 v145 := Tryz.zeroValue240
 t167 := Tryz.underlying193
 a167 := Tryz.isAgg193
 z167 := Tryz.sizeOf193
 v167 := Tryz.zeroValue193
 t168 := Tryz.underlying196
 a168 := Tryz.isAgg196
 z168 := Tryz.sizeOf196
 v168 := Tryz.zeroValue196
 t171 := Tryz.underlying199
 a171 := Tryz.isAgg199
 z171 := Tryz.sizeOf199
 v171 := Tryz.zeroValue199
 t173 := Tryz.underlying201
 a173 := Tryz.isAgg201
 z173 := Tryz.sizeOf201
 v173 := Tryz.zeroValue201
 t175 := Tryz.underlying219
 a175 := Tryz.isAgg219
 z175 := Tryz.sizeOf219
 v175 := Tryz.zeroValue219
 t210 := Tryz.underlying223
 a210 := Tryz.isAgg223
 z210 := Tryz.sizeOf223
 v210 := Tryz.zeroValue223
 t212 := Tryz.underlying226
 a212 := Tryz.isAgg226
 z212 := Tryz.sizeOf226
 v212 := Tryz.zeroValue226
 t213 := Tryz.underlying227
 a213 := Tryz.isAgg227
 z213 := Tryz.sizeOf227
 t232 := Tryz.underlying242
 a232 := Tryz.isAgg242
 z232 := Tryz.sizeOf242
 v232 := Tryz.zeroValue242
 t233 := Tryz.underlying243
 a233 := Tryz.isAgg243
 z233 := Tryz.sizeOf243
 v233 := Tryz.zeroValue243
 g15 := by kernel_rfl
 g16 := by kernel_rfl
 g17 := by kernel_rfl
 g18 := by kernel_rfl
 g19 := by kernel_rfl
 t80 := Tryz.underlying135
 a80 := Tryz.isAgg135
 z80 := Tryz.sizeOf135
 v80 := Tryz.zeroValue135
 i0 := by kernel_rfl
 i2 := by kernel_rfl
 i3 := by kernel_rfl
 i4 := by kernel_rfl
 i5 := by kernel_rfl
 i9 := by kernel_rfl
 i20 := by kernel_rfl
 i21 := by kernel_rfl
 i37 := by kernel_rfl
 i46 := by kernel_rfl
 i51 := by kernel_rfl
 i53 := by kernel_rfl
 i75 := by kernel_rfl
 i76 := by kernel_rfl
 i80 := by kernel_rfl
 i85 := by kernel_rfl
 i127 := by kernel_rfl
 i143 := by kernel_rfl
 i145 := by kernel_rfl
 i167 := by kernel_rfl
 i168 := by kernel_rfl
 i171 := by kernel_rfl
 i173 := by kernel_rfl
 i175 := by kernel_rfl
 i210 := by kernel_rfl
 i212 := by kernel_rfl
 i232 := by kernel_rfl
 i233 := by kernel_rfl
 m15 := by kernel_rfl
 m16 := by kernel_rfl
 m17 := by kernel_rfl
 m18 := by kernel_rfl
 m19 := by kernel_rfl
 c0 := by kernel_rfl
 c2 := by kernel_rfl
 c3 := by kernel_rfl
 c4 := by kernel_rfl
 c5 := by kernel_rfl
 c9 := by kernel_rfl
 c20 := by kernel_rfl
 c21 := by kernel_rfl
 c37 := by kernel_rfl
 c46 := by kernel_rfl
 c51 := by kernel_rfl
 c53 := by kernel_rfl
 c75 := by kernel_rfl
 c76 := by kernel_rfl
 c80 := by kernel_rfl
 c85 := by kernel_rfl
 c127 := by kernel_rfl
 c143 := by kernel_rfl
 c145 := by kernel_rfl
 c167 := by kernel_rfl
 c168 := by kernel_rfl
 c171 := by kernel_rfl
 c173 := by kernel_rfl
 c175 := by kernel_rfl
 c210 := by kernel_rfl
 c212 := by kernel_rfl
 c213 := by kernel_rfl
 c232 := by kernel_rfl
 c233 := by kernel_rfl }
theorem Tryz.strconv_Atoi_ok (s : ByteArray) (hmax : s.size ≤ 9223372036854775806) (v : Int) (h : Lib.atoiAll s.data.toList = .ok v) (w : World) :
 Calls Tryz.prog 115 #[.string s] w fun e w' => e = .returned (.tuple #[.int .i64 v, .nilIface]) ∧ (w' = w ∨ ∃ t, w' = Lib.bytesWorld w 5 t) := Any.strconv_Atoi_ok Tryz.laysC172 s hmax v h w
theorem Tryz.strconv_Atoi_syntax (s : ByteArray) (hlim : s.size ≤ 281474976710656) (hok : ∀ v, Lib.atoiAll s.data.toList ≠ .ok v) (hrg : Lib.atoiAll s.data.toList ≠ .range) (ev : Value) (w : World) (hv : w.cell? ⟨1, 0, none⟩ = some ev) (hev : ev = .nilIface ∨ ∃ te pe, ev = .iface te pe) :
 Calls Tryz.prog 115 #[.string s] w fun e w' => ∃ N, e = .returned (.tuple #[.int .i64 (0), .iface 196 (.pointer (some ⟨N, 0, none⟩))]) ∧ w.heap.size ≤ N ∧ w'.heap[N]? = some (.cells #[.string ⟨#[65, 116, 111, 105]⟩, .string s, ev] 223 (0, 0)) ∧ Below w.heap.size w w' := by
 cases h : Lib.atoiAll s.data.toList with
 | ok v => exact absurd h (hok v)
 | range => exact absurd h hrg
 | _ => exact Any.strconv_Atoi_syntax Tryz.laysC172 s hlim h ev w hv hev
theorem Tryz.strconv_Atoi_range (s : ByteArray) (hlim : s.size ≤ 281474976710656) (h : Lib.atoiAll s.data.toList = .range) (ev : Value) (w : World) (hv : w.cell? ⟨2, 0, none⟩ = some ev) (hev : ev = .nilIface ∨ ∃ te pe, ev = .iface te pe) :
 Calls Tryz.prog 115 #[.string s] w fun e w' => ∃ N, e = .returned (.tuple #[.int .i64 (Lib.atoiSat s.data.toList), .iface 196 (.pointer (some ⟨N, 0, none⟩))]) ∧ w.heap.size ≤ N ∧ w'.heap[N]? = some (.cells #[.string ⟨#[65, 116, 111, 105]⟩, .string s, ev] 223 (0, 0)) ∧ Below w.heap.size w w' := Any.strconv_Atoi_range Tryz.laysC172 s hlim h ev w hv hev
def Tryz.lays138_ren : Go.Shelf.Ren := ⟨fun | 138 => 61 | 195 => 103 | 218 => 104 | 143 => 105 | 219 => 127 | 217 => 141 | 225 => 142 | 224 => 143 | 267 => 144 | 266 => 178 | 314 => 179 | n => n, fun | 9 => 9 | 3 => 3 | 4 => 4 | 5 => 5 | 0 => 0 | 46 => 173 | 146 => 211 | 51 => 188 | n => n, fun | 1 => 0 | n => n⟩
theorem Tryz.lays138 : Go.Proofs.Lays.n138 Tryz.prog Tryz.lays138_ren := {
 mixed := by kernel_rfl
 f138 := Tryz.func61.trans (congrArg some (by kernel_rfl))
 f143 := Tryz.func105.trans (congrArg some (by kernel_rfl))
 f195 := Tryz.func103.trans (congrArg some (by kernel_rfl))
 f217 := Tryz.func141.trans (congrArg some (by kernel_rfl))
 f218 := Tryz.func104.trans (congrArg some (by kernel_rfl))
 f219 := Tryz.func127.trans (congrArg some (by kernel_rfl))
 f224 := Tryz.func143.trans (congrArg some (by kernel_rfl))
 f225 := Tryz.func142.trans (congrArg some (by kernel_rfl))
 f266 := Tryz.func178.trans (congrArg some (by kernel_rfl))
 f267 := Tryz.func144.trans (congrArg some (by kernel_rfl))
 f314 := Tryz.func179.trans (congrArg some (by kernel_rfl))
 t0 := Tryz.underlying0
 a0 := Tryz.isAgg0
 z0 := Tryz.sizeOf0
 v0 := Tryz.zeroValue0
 t3 := Tryz.underlying3
 a3 := Tryz.isAgg3
 z3 := Tryz.sizeOf3
 v3 := Tryz.zeroValue3
 t4 := Tryz.underlying4
 a4 := Tryz.isAgg4
 z4 := Tryz.sizeOf4
 v4 := Tryz.zeroValue4
 t5 := Tryz.underlying5
 a5 := Tryz.isAgg5
 z5 := Tryz.sizeOf5
 v5 := Tryz.zeroValue5
 t9 := Tryz.underlying9
 a9 := Tryz.isAgg9
 z9 := Tryz.sizeOf9
 v9 := Tryz.zeroValue9
 t46 := Tryz.underlying173
 a46 := Tryz.isAgg173
 z46 := Tryz.sizeOf173
 v46 := Tryz.zeroValue173
 t51 := Tryz.underlying188
 a51 := Tryz.isAgg188
 z51 := Tryz.sizeOf188
 v51 := Tryz.zeroValue188
 t146 := Tryz.underlying211
 a146 := Tryz.isAgg211
 z146 := Tryz.sizeOf211
 v146 := Tryz.zeroValue211
 g1 := by kernel_rfl }
theorem Tryz.strings_Count_one (s : ByteArray) (c : UInt8) (w : World) :
 Calls Tryz.prog 61 #[.string s, .string ⟨#[c]⟩] w fun e w' => e = .returned (.int .i64 (Lib.countByte s.data.toList c)) ∧ w' = w := Any.strings_Count_one Tryz.lays138 s c w
def Tryz.lays189_ren : Go.Shelf.Ren := ⟨fun | 189 => 112 | 125 => 131 | 257 => 130 | 128 => 156 | 129 => 157 | 294 => 147 | 295 => 148 | 296 => 149 | 297 => 150 | 298 => 151 | 299 => 152 | 216 => 153 | 300 => 154 | 301 => 155 | 328 => 183 | 329 => 184 | 330 => 185 | 331 => 186 | 332 => 187 | 215 => 139 | 343 => 200 | n => n, fun | 28 => 43 | 3 => 3 | 46 => 173 | 0 => 0 | 51 => 188 | 53 => 190 | 4 => 4 | 183 => 182 | 182 => 181 | 131 => 87 | 5 => 5 | 9 => 9 | 218 => 213 | 222 => 217 | 228 => 230 | 229 => 231 | n => n, fun | n => n⟩
theorem Tryz.lays189 : Go.Proofs.Lays.n189 Tryz.prog Tryz.lays189_ren := {
 mixed := by kernel_rfl
 f125 := Tryz.func131.trans (congrArg some (by kernel_rfl))
 f128 := Tryz.func156.trans (congrArg some (by kernel_rfl))
 f129 := Tryz.func157.trans (congrArg some (by kernel_rfl))
 f189 := Tryz.func112.trans (congrArg some (by kernel_rfl))
 f215 := Tryz.func139.trans (congrArg some (by kernel_rfl))
 f216 := Tryz.func153.trans (congrArg some (by kernel_rfl))
 f257 := Tryz.func130.trans (congrArg some (by kernel_rfl))
 f294 := Tryz.func147.trans (congrArg some (by kernel_rfl))
 f295 := Tryz.func148.trans (congrArg some (by kernel_rfl))
 f296 := Tryz.func149.trans (congrArg some (by kernel_rfl))
 f297 := Tryz.func150.trans (congrArg some (by kernel_rfl))
 f298 := Tryz.func151.trans (congrArg some (by kernel_rfl))
 f299 := Tryz.func152.trans (congrArg some (by kernel_rfl))
 f300 := Tryz.func154.trans (congrArg some (by kernel_rfl))
 f301 := Tryz.func155.trans (congrArg some (by kernel_rfl))
 f328 := Tryz.func183.trans (congrArg some (by kernel_rfl))
 f329 := Tryz.func184.trans (congrArg some (by kernel_rfl))
 f330 := Tryz.func185.trans (congrArg some (by kernel_rfl))
 f331 := Tryz.func186.trans (congrArg some (by kernel_rfl))
 f332 := Tryz.func187.trans (congrArg some (by kernel_rfl))
 f343 := Tryz.func200.trans (congrArg some (by kernel_rfl))
 t0 := Tryz.underlying0
 a0 := Tryz.isAgg0
 z0 := Tryz.sizeOf0
 v0 := Tryz.zeroValue0
 t3 := Tryz.underlying3
 a3 := Tryz.isAgg3
 z3 := Tryz.sizeOf3
 v3 := Tryz.zeroValue3
 t4 := Tryz.underlying4
 a4 := Tryz.isAgg4
 z4 := Tryz.sizeOf4
 v4 := Tryz.zeroValue4
 t5 := Tryz.underlying5
 a5 := Tryz.isAgg5
 z5 := Tryz.sizeOf5
 v5 := Tryz.zeroValue5
 t9 := Tryz.underlying9
 a9 := Tryz.isAgg9
 z9 := Tryz.sizeOf9
 v9 := Tryz.zeroValue9
 t28 := Tryz.underlying43
 a28 := Tryz.isAgg43
 z28 := Tryz.sizeOf43
 v28 := Tryz.zeroValue43
 t46 := Tryz.underlying173
 a46 := Tryz.isAgg173
 z46 := Tryz.sizeOf173
 v46 := Tryz.zeroValue173
 t51 := Tryz.underlying188
 a51 := Tryz.isAgg188
 z51 := Tryz.sizeOf188
 v51 := Tryz.zeroValue188
 t53 := Tryz.underlying190
 a53 := Tryz.isAgg190
 z53 := Tryz.sizeOf190
 v53 := Tryz.zeroValue190
 t131 := Tryz.underlying87
 a131 := Tryz.isAgg87
 z131 := Tryz.sizeOf87
 v131 := Tryz.zeroValue87
 t182 := Tryz.underlying181
 a182 := Tryz.isAgg181
 z182 := Tryz.sizeOf181
 v182 := Tryz.zeroValue181
 t183 := Tryz.underlying182
 a183 := Tryz.isAgg182
 z183 := Tryz.sizeOf182
 v183 := Tryz.zeroValue182
 t218 := Tryz.underlying213
 a218 := Tryz.isAgg213
 z218 := Tryz.sizeOf213
 v218 := Tryz.zeroValue213
 t222 := Tryz.underlying217
 a222 := Tryz.isAgg217
 z222 := Tryz.sizeOf217
 v222 := Tryz.zeroValue217
 t228 := Tryz.underlying230
 a228 := Tryz.isAgg230
 z228 := Tryz.sizeOf230
 v228 := Tryz.zeroValue230
 t229 := Tryz.underlying231
 a229 := Tryz.isAgg231
 z229 := Tryz.sizeOf231
 v229 := Tryz.zeroValue231 }
open Go.Sort Go.RowKit in
theorem Tryz.slices_Sort_int (blk off cap : Nat) (zs : List Int) (w : World) (hH : Holds (Value.int .i64) w blk off zs.toArray) (hblk : blk < w.heap.size) (hsz : zs.length < 4611686018427387904) :
 Calls Tryz.prog 112 #[.slice (some ⟨blk, off, none⟩) zs.length cap] w fun e w' =>
  e = .returned (.tuple #[]) ∧ ∃ n os, w' = grow (putRow (Value.int .i64) (Sort.ahead w n) blk off (zs.mergeSort fun x y => decide (x ≤ y)).toArray) os := Any.slices_Sort_int Tryz.lays189 blk off cap zs w hH hblk hsz
def Tryz.lays146_ren : Go.Shelf.Ren := ⟨fun | 146 => 87 | 221 => 114 | 268 => 132 | 138 => 61 | 143 => 105 | 195 => 103 | 197 => 158 | 218 => 104 | 219 => 127 | 260 => 188 | 217 => 141 | 225 => 142 | 224 => 143 | 267 => 144 | 266 => 178 | 314 => 179 | n => n, fun | 9 => 9 | 31 => 85 | 3 => 3 | 4 => 4 | 0 => 0 | 105 => 191 | 21 => 21 | 5 => 5 | 46 => 173 | 119 => 233 | 139 => 236 | 138 => 235 | 146 => 211 | 51 => 188 | n => n, fun | 1 => 0 | 3 => 4 | 4 => 5 | n => n⟩
theorem Tryz.lays146 : Go.Proofs.Lays.n146 Tryz.prog Tryz.lays146_ren := {
 mixed := by kernel_rfl
 f138 := Tryz.func61.trans (congrArg some (by kernel_rfl))
 f143 := Tryz.func105.trans (congrArg some (by kernel_rfl))
 f146 := Tryz.func87.trans (congrArg some (by kernel_rfl))
 f195 := Tryz.func103.trans (congrArg some (by kernel_rfl))
 f197 := Tryz.func158.trans (congrArg some (by kernel_rfl))
 f217 := Tryz.func141.trans (congrArg some (by kernel_rfl))
 f218 := Tryz.func104.trans (congrArg some (by kernel_rfl))
 f219 := Tryz.func127.trans (congrArg some (by kernel_rfl))
 f221 := Tryz.func114.trans (congrArg some (by kernel_rfl))
 f224 := Tryz.func143.trans (congrArg some (by kernel_rfl))
 f225 := Tryz.func142.trans (congrArg some (by kernel_rfl))
 f260 := Tryz.func188.trans (congrArg some (by kernel_rfl))
 f266 := Tryz.func178.trans (congrArg some (by kernel_rfl))
 f267 := Tryz.func144.trans (congrArg some (by kernel_rfl))
 f268 := Tryz.func132.trans (congrArg some (by kernel_rfl))
 f314 := Tryz.func179.trans (congrArg some (by kernel_rfl))
 t0 := Tryz.underlying0
 a0 := Tryz.isAgg0
 z0 := Tryz.sizeOf0
 v0 := Tryz.zeroValue0
 t3 := Tryz.underlying3
 a3 := Tryz.isAgg3
 z3 := Tryz.sizeOf3
 v3 := Tryz.zeroValue3
 t4 := Tryz.underlying4
 a4 := Tryz.isAgg4
 z4 := Tryz.sizeOf4
 v4 := Tryz.zeroValue4
 t5 := Tryz.underlying5
 a5 := Tryz.isAgg5
 z5 := Tryz.sizeOf5
 v5 := Tryz.zeroValue5
 t9 := Tryz.underlying9
 a9 := Tryz.isAgg9
 z9 := Tryz.sizeOf9
 v9 := Tryz.zeroValue9
 t21 := Tryz.underlying21
 a21 := Tryz.isAgg21
 z21 := Tryz.sizeOf21
 v21 := Tryz.zeroValue21
 t31 := Tryz.underlying85
 a31 := Tryz.isAgg85
 z31 := Tryz.sizeOf85
 v31 := Tryz.zeroValue85
 t46 := Tryz.underlying173
 a46 := Tryz.isAgg173
 z46 := Tryz.sizeOf173
 v46 := Tryz.zeroValue173
 t51 := Tryz.underlying188
 a51 := Tryz.isAgg188
 z51 := Tryz.sizeOf188
 v51 := Tryz.zeroValue188
 t105 := Tryz.underlying191
 a105 := Tryz.isAgg191
 z105 := Tryz.sizeOf191
 v105 := Tryz.zeroValue191
 t119 := Tryz.underlying233
 a119 := Tryz.isAgg233
 z119 := Tryz.sizeOf233
 t138 := Tryz.underlying235
 a138 := Tryz.isAgg235
 z138 := Tryz.sizeOf235
 v138 := Tryz.zeroValue235
 t139 := Tryz.underlying236
 a139 := Tryz.isAgg236
 z139 := Tryz.sizeOf236
 v139 := Tryz.zeroValue236
 t146 := Tryz.underlying211
 a146 := Tryz.isAgg211
 z146 := Tryz.sizeOf211
 v146 := Tryz.zeroValue211
 g1 := by kernel_rfl
 g3 := by kernel_rfl
 g4 := by kernel_rfl }
theorem Tryz.strings_Split (s sep : ByteArray) (m : Int) (w : World) (hs : s.size < 4294967281) (hm : w.cell? ⟨0, 0, none⟩ = some (.int .i64 m)) (h1 : 1 ≤ sep.size) :
 Calls Tryz.prog 87 #[.string s, .string sep] w fun e w' =>
  e = .returned (.slice (some ⟨w.heap.size, 0, none⟩) (Lib.countB s sep + 1) (Lib.countB s sep + 1)) ∧ w' = w.alloc (.cells ((Lib.splitB sep 0 (Lib.countB s sep) s).map Value.string).toArray 9) := Any.strings_Split Tryz.lays146 (by kernel_rfl) s sep m w hs hm h1
def Tryz.lays108_ren : Go.Shelf.Ren := ⟨fun | 108 => 122 | n => n, fun | 28 => 43 | 3 => 3 | 0 => 0 | 4 => 4 | n => n, fun | n => n⟩
theorem Tryz.lays108 : Go.Proofs.Lays.n108 Tryz.prog Tryz.lays108_ren := {
 mixed := by kernel_rfl
 f108 := Tryz.func122.trans (congrArg some (by kernel_rfl))
 t0 := Tryz.underlying0
 a0 := Tryz.isAgg0
 z0 := Tryz.sizeOf0
 v0 := Tryz.zeroValue0
 t3 := Tryz.underlying3
 a3 := Tryz.isAgg3
 z3 := Tryz.sizeOf3
 v3 := Tryz.zeroValue3
 t4 := Tryz.underlying4
 a4 := Tryz.isAgg4
 z4 := Tryz.sizeOf4
 v4 := Tryz.zeroValue4
 t28 := Tryz.underlying43
 a28 := Tryz.isAgg43
 z28 := Tryz.sizeOf43
 v28 := Tryz.zeroValue43 }
theorem Tryz.slices_Index_int (b off n c : Nat) (zs : List Int) (x : Int) (w : World) (hz : n ≤ zs.length) (hbig : n ≤ 9223372036854775807) (hc : ∀ j, j < zs.length → w.cell? ⟨b, off + j, none⟩ = some (.int .i64 (zs.getD j 0))) :
 Calls Tryz.prog 122 #[.slice (some ⟨b, off, none⟩) n c, .int .i64 x] w fun e w' => e = .returned (.int .i64 (Lib.idxOf (zs.take n) x)) ∧ w' = w := Any.slices_Index_int Tryz.lays108 b off n c zs x w hz hbig hc
theorem Tryz.slices_Index_int_empty (a : Option Addr) (c : Nat) (x : Int) (w : World) :
 Calls Tryz.prog 122 #[.slice a 0 c, .int .i64 x] w fun e w' => e = .returned (.int .i64 (Lib.idxOf [] x)) ∧ w' = w := Any.slices_Index_int_empty Tryz.lays108 a c x w
def Tryz.lays107_ren : Go.Shelf.Ren := ⟨fun | 107 => 100 | 108 => 122 | n => n, fun | 28 => 43 | 3 => 3 | 4 => 4 | 0 => 0 | n => n, fun | n => n⟩
theorem Tryz.lays107 : Go.Proofs.Lays.n107 Tryz.prog Tryz.lays107_ren := {
 mixed := by kernel_rfl
 f107 := Tryz.func100.trans (congrArg some (by kernel_rfl))
 f108 := Tryz.func122.trans (congrArg some (by kernel_rfl))
 t0 := Tryz.underlying0
 a0 := Tryz.isAgg0
 z0 := Tryz.sizeOf0
 v0 := Tryz.zeroValue0
 t3 := Tryz.underlying3
 a3 := Tryz.isAgg3
 z3 := Tryz.sizeOf3
 v3 := Tryz.zeroValue3
 t4 := Tryz.underlying4
 a4 := Tryz.isAgg4
 z4 := Tryz.sizeOf4
 v4 := Tryz.zeroValue4
 t28 := Tryz.underlying43
 a28 := Tryz.isAgg43
 z28 := Tryz.sizeOf43
 v28 := Tryz.zeroValue43 }
theorem Tryz.slices_Contains_int (b off n c : Nat) (zs : List Int) (x : Int) (w : World) (hz : n ≤ zs.length) (hbig : n ≤ 9223372036854775807) (hc : ∀ j, j < zs.length → w.cell? ⟨b, off + j, none⟩ = some (.int .i64 (zs.getD j 0))) :
 Calls Tryz.prog 100 #[.slice (some ⟨b, off, none⟩) n c, .int .i64 x] w fun e w' => e = .returned (.bool ((zs.take n).contains x)) ∧ w' = w := Any.slices_Contains_int Tryz.lays107 b off n c zs x w hz hbig hc
theorem Tryz.slices_Contains_int_empty (a : Option Addr) (c : Nat) (x : Int) (w : World) :
 Calls Tryz.prog 100 #[.slice a 0 c, .int .i64 x] w fun e w' => e = .returned (.bool false) ∧ w' = w := Any.slices_Contains_int_empty Tryz.lays107 a c x w
def Tryz.lays109_ren : Go.Shelf.Ren := ⟨fun | 109 => 91 | n => n, fun | 31 => 85 | 9 => 9 | 3 => 3 | 0 => 0 | 4 => 4 | n => n, fun | n => n⟩
theorem Tryz.lays109 : Go.Proofs.Lays.n109 Tryz.prog Tryz.lays109_ren := {
 mixed := by kernel_rfl
 f109 := Tryz.func91.trans (congrArg some (by kernel_rfl))
 t0 := Tryz.underlying0
 a0 := Tryz.isAgg0
 z0 := Tryz.sizeOf0
 v0 := Tryz.zeroValue0
 t3 := Tryz.underlying3
 a3 := Tryz.isAgg3
 z3 := Tryz.sizeOf3
 v3 := Tryz.zeroValue3
 t4 := Tryz.underlying4
 a4 := Tryz.isAgg4
 z4 := Tryz.sizeOf4
 v4 := Tryz.zeroValue4
 t9 := Tryz.underlying9
 a9 := Tryz.isAgg9
 z9 := Tryz.sizeOf9
 v9 := Tryz.zeroValue9
 t31 := Tryz.underlying85
 a31 := Tryz.isAgg85
 z31 := Tryz.sizeOf85
 v31 := Tryz.zeroValue85 }
theorem Tryz.slices_Index_string (b off n c : Nat) (zs : List ByteArray) (x : ByteArray) (w : World) (hz : n ≤ zs.length) (hbig : n ≤ 9223372036854775807) (hc : ∀ j, j < zs.length → w.cell? ⟨b, off + j, none⟩ = some (.string (zs.getD j ByteArray.empty))) :
 Calls Tryz.prog 91 #[.slice (some ⟨b, off, none⟩) n c, .string x] w fun e w' => e = .returned (.int .i64 (Lib.idxOfS (zs.take n) x)) ∧ w' = w := Any.slices_Index_string Tryz.lays109 b off n c zs x w hz hbig hc
def Tryz.lays112_ren : Go.Shelf.Ren := ⟨fun | 112 => 49 | n => n, fun | 28 => 43 | 3 => 3 | 4 => 4 | 0 => 0 | n => n, fun | n => n⟩
theorem Tryz.lays112 : Go.Proofs.Lays.n112 Tryz.prog Tryz.lays112_ren := {
 mixed := by kernel_rfl
 f112 := Tryz.func49.trans (congrArg some (by kernel_rfl))
 t0 := Tryz.underlying0
 a0 := Tryz.isAgg0
 z0 := Tryz.sizeOf0
 v0 := Tryz.zeroValue0
 t3 := Tryz.underlying3
 a3 := Tryz.isAgg3
 z3 := Tryz.sizeOf3
 v3 := Tryz.zeroValue3
 t4 := Tryz.underlying4
 a4 := Tryz.isAgg4
 z4 := Tryz.sizeOf4
 v4 := Tryz.zeroValue4
 t28 := Tryz.underlying43
 a28 := Tryz.isAgg43
 z28 := Tryz.sizeOf43
 v28 := Tryz.zeroValue43 }
theorem Tryz.slices_Reverse_int (blk off cap : Nat) (zs : List Int) (w : World) (hH : Holds (Value.int .i64) w blk off zs.toArray) (hsz : zs.length ≤ 9223372036854775807) :
 Calls Tryz.prog 49 #[.slice (some ⟨blk, off, none⟩) zs.length cap] w fun e w' => e = .returned (.tuple #[]) ∧ ∃ n, w' = putRow (Value.int .i64) (Sort.ahead w n) blk off zs.reverse.toArray := Any.slices_Reverse_int Tryz.lays112 blk off cap zs w hH hsz
theorem Tryz.slices_Reverse_int_empty (a : Option Addr) (cap : Nat) (w : World) :
 Calls Tryz.prog 49 #[.slice a 0 cap] w fun e w' => e = .returned (.tuple #[]) ∧ w' = w := Any.slices_Reverse_int_empty Tryz.lays112 a cap w
def Tryz.lays111_ren : Go.Shelf.Ren := ⟨fun | 111 => 22 | n => n, fun | 28 => 43 | 3 => 3 | 4 => 4 | 0 => 0 | n => n, fun | n => n⟩
theorem Tryz.lays111 : Go.Proofs.Lays.n111 Tryz.prog Tryz.lays111_ren := {
 mixed := by kernel_rfl
 f111 := Tryz.func22.trans (congrArg some (by kernel_rfl))
 t0 := Tryz.underlying0
 a0 := Tryz.isAgg0
 z0 := Tryz.sizeOf0
 v0 := Tryz.zeroValue0
 t3 := Tryz.underlying3
 a3 := Tryz.isAgg3
 z3 := Tryz.sizeOf3
 v3 := Tryz.zeroValue3
 t4 := Tryz.underlying4
 a4 := Tryz.isAgg4
 z4 := Tryz.sizeOf4
 v4 := Tryz.zeroValue4
 t28 := Tryz.underlying43
 a28 := Tryz.isAgg43
 z28 := Tryz.sizeOf43
 v28 := Tryz.zeroValue43 }
theorem Tryz.slices_Equal_int (b1 o1 n c b2 o2 m d : Nat) (xs ys : List Int) (w : World) (hx : n ≤ xs.length) (hy : m ≤ ys.length) (hbig : n ≤ 9223372036854775807) (hbig2 : m ≤ 9223372036854775807) (hc1 : ∀ j, j < xs.length → w.cell? ⟨b1, o1 + j, none⟩ = some (.int .i64 (xs.getD j 0))) (hc2 : ∀ j, j < ys.length → w.cell? ⟨b2, o2 + j, none⟩ = some (.int .i64 (ys.getD j 0))) :
 Calls Tryz.prog 22 #[.slice (some ⟨b1, o1, none⟩) n c, .slice (some ⟨b2, o2, none⟩) m d] w fun e w' => e = .returned (.bool (xs.take n == ys.take m)) ∧ ∃ q, w' = w.drewN q := Any.slices_Equal_int Tryz.lays111 b1 o1 n c b2 o2 m d xs ys w hx hy hbig hbig2 hc1 hc2
theorem Tryz.slices_Equal_int_empty (a1 a2 : Option Addr) (c m d : Nat) (w : World) (hbig2 : m ≤ 9223372036854775807) :
 Calls Tryz.prog 22 #[.slice a1 0 c, .slice a2 m d] w fun e w' => e = .returned (.bool (decide (m = 0))) ∧ w' = w := Any.slices_Equal_int_empty Tryz.lays111 a1 a2 c m d w hbig2
def Tryz.laysNm215_ren : Go.Shelf.Ren := ⟨fun | 15 => 83 | n => n, fun | 22 => 43 | 3 => 3 | 4 => 4 | n => n, fun | n => n⟩
theorem Tryz.laysNm215 : Go.Proofs.Lays2.n15 Tryz.prog Tryz.laysNm215_ren := {
 mixed := by kernel_rfl
 f15 := Tryz.func83.trans (congrArg some (by kernel_rfl))
 t3 := Tryz.underlying3
 a3 := Tryz.isAgg3
 z3 := Tryz.sizeOf3
 v3 := Tryz.zeroValue3
 t4 := Tryz.underlying4
 a4 := Tryz.isAgg4
 z4 := Tryz.sizeOf4
 v4 := Tryz.zeroValue4
 t22 := Tryz.underlying43
 a22 := Tryz.isAgg43
 z22 := Tryz.sizeOf43
 v22 := Tryz.zeroValue43
 i3 := by kernel_rfl }
theorem Tryz.slices_Clone_int (b off n c : Nat) (zs : List Int) (w : World) (hz : n ≤ zs.length) (hbig : n * 8 ≤ 140737488355328) (hc : ∀ j, j < zs.length → w.cell? ⟨b, off + j, none⟩ = some (.int .i64 (zs.getD j 0))) :
 Calls Tryz.prog 83 #[.slice (some ⟨b, off, none⟩) n c] w fun e w' => ∃ v', e = .returned v' ∧ w'.ownsRow w.heap.size 3 1 v' n ((zs.take n).map (Value.int .i64)) ∧ v' ≠ .slice none 0 0 ∧ Below w.heap.size w w' := Any.slices_Clone_int Tryz.laysNm215 b off n c zs w hz hbig hc
theorem Tryz.slices_Clone_int_nil (n c : Nat) (w : World) :
 Calls Tryz.prog 83 #[.slice none n c] w fun e w' => e = .returned (.slice none 0 0) ∧ w' = w := Any.slices_Clone_int_nil Tryz.laysNm215 n c w
theorem Tryz.slices_Clone_int_zero (a : Addr) (c : Nat) (w : World) :
 Calls Tryz.prog 83 #[.slice (some a) 0 c] w fun e w' => ∃ v', e = .returned v' ∧ w'.ownsRow w.heap.size 3 1 v' 0 [] ∧ v' ≠ .slice none 0 0 ∧ Below w.heap.size w w' := Any.slices_Clone_int_zero Tryz.laysNm215 a c w
theorem Tryz.slices_Sort_int_none (p : Option Addr) (cap : Nat) (w : World) :
 Calls Tryz.prog 112 #[.slice p 0 cap] w fun e w' => e = .returned (.tuple #[]) ∧ w' = w := Any.slices_Sort_int_none Tryz.lays189 p cap w
open Go.RowKit Go.Lib in
theorem Tryz.slices_Equal_int_lens (a1 a2 : Option Addr) (n c m d : Nat) (w : World) (hnm : n ≠ m) :
 Calls Tryz.prog 22 #[.slice a1 n c, .slice a2 m d] w fun e w' => e = .returned (.bool false) ∧ w' = w := Any.slices_Equal_int_lens Tryz.lays111 a1 a2 n c m d w hnm
end Go.Proofs
