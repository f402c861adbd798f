/- Part of a proof of orderExact_card. -/
import Derived.Shelf.Strings.Builder1
import Derived.Shelf.Small.Bits
import Derived.Shelf.Small.Wraps
import Derived.Shelf.Strings.BuilderF
import Derived.Shelf.Strings.BuilderK
import Derived.Shelf.Strconv.Atoi
import Derived.Shelf.Strconv.Itoa0
import Derived.Shelf.Strconv.Itoa1
import Derived.Shelf.LaysM
import Derived.Shelf.Strconv.Itoa2
import Derived.Shelf.Strconv.Itoa3
import Derived.Shelf.Strconv.AtoiErrFast
import Derived.Shelf.Strconv.ParseIntEmpty
import Derived.Shelf.Strconv.AtoiFail
import Derived.Shelf.Strconv.Clone
import Derived.Shelf.Strconv.SyntaxError
import Derived.Shelf.LaysC
import Derived.Shelf.Strconv.ToError
import Derived.Shelf.Strconv.AtoiErr
import Derived.Shelf.Strconv.ErrVar
import Derived.Shelf.Strconv.Lower
import Derived.Shelf.Strconv.ParseUint10
import Derived.Shelf.Strconv.ParseUint10Empty
import Derived.Shelf.Strconv.ParseUint10Any
import Derived.Shelf.Strconv.ParseInt10
import Derived.Shelf.Strconv.AtoiLong
import Derived.Shelf.Strconv.AtoiInnerAll
import Derived.Shelf.Strconv.RangeError
import Derived.Shelf.Strconv.ToErrorRange
import Derived.Shelf.Strconv.AtoiAll
import Derived.Shelf.Strconv.ErrVarAll
import Derived.Shelf.Strconv.ParseUintEmpty
import Derived.Shelf.Strconv.ParseUint10b64
import Derived.Shelf.Strconv.ParseUint10b32
import Derived.Shelf.Strconv.ParseUint10b16
import Derived.Shelf.Strconv.ParseUint10b8
import Derived.Shelf.Strconv.ParseUint10At
import Derived.Shelf.Strconv.ParseInt10At64
import Derived.Shelf.Strconv.ParseInt10At32
import Derived.Shelf.Strconv.ParseInt10At16
import Derived.Shelf.Strconv.ParseInt10At8
import Derived.Shelf.Strconv.ParseInt10All
import Derived.Shelf.Bits.Mul64
import Derived.Shelf.Slices.Equal
import Derived.Ground.Names2Prog
import Derived.Shelf.Slices.SearchI
import Derived.Shelf.Slices.Empties2
import Derived.Ground.SlsfProg
import Derived.Shelf.SlSortCmp.Insertion
import Derived.Test.YtlmnkcfnihhlgaaGreatDoorProg
namespace Go.Proofs
open Go.Shelf
def Tryz.lays169_ren : Go.Shelf.Ren := ⟨fun | 169 => 58 | n => n, fun | 70 => 69 | 9 => 9 | 0 => 0 | 72 => 71 | 37 => 53 | 127 => 115 | 3 => 3 | 5 => 5 | n => n, fun | n => n⟩
theorem Tryz.lays169 : Go.Proofs.Lays.n169 Tryz.prog Tryz.lays169_ren := {
 mixed := by kernel_rfl
 f169 := Tryz.func58.trans (congrArg some (by kernel_rfl))
 t0 := Tryz.underlying0
 a0 := Tryz.isAgg0
 z0 := Tryz.sizeOf0
 v0 := Tryz.zeroValue0
 t3 := Tryz.underlying3
 a3 := Tryz.isAgg3
 z3 := Tryz.sizeOf3
 v3 := Tryz.zeroValue3
 t9 := Tryz.underlying9
 a9 := Tryz.isAgg9
 z9 := Tryz.sizeOf9
 v9 := Tryz.zeroValue9
 t37 := Tryz.underlying53
 a37 := Tryz.isAgg53
 z37 := Tryz.sizeOf53
 v37 := Tryz.zeroValue53
 t70 := Tryz.underlying69
 a70 := Tryz.isAgg69
 z70 := Tryz.sizeOf69
 v70 := Tryz.zeroValue69
 t72 := Tryz.underlying71
 a72 := Tryz.isAgg71
 z72 := Tryz.sizeOf71
 v72 := Tryz.zeroValue71
 t127 := Tryz.underlying115
 a127 := Tryz.isAgg115
 z127 := Tryz.sizeOf115
 v127 := Tryz.zeroValue115 }
theorem Tryz.Builder_Extra_169 : Builder.Extra Tryz.prog Tryz.lays169_ren := {
 sizeBuilder := by kernel_rfl
 liesBuilder := by kernel_rfl
 t5 := Tryz.underlying5
 a5 := Tryz.isAgg5
 z5 := Tryz.sizeOf5
 v5 := Tryz.zeroValue5
 infoByte := by kernel_rfl
 cellsByte := by kernel_rfl
 sizeByte := by kernel_rfl
 neB5 := by decide }
def Tryz.lays125_ren : Go.Shelf.Ren := ⟨fun | 125 => 125 | 128 => 157 | 129 => 158 | n => n, fun | 46 => 64 | 3 => 3 | 51 => 157 | 53 => 58 | 4 => 4 | 5 => 5 | 9 => 9 | n => n, fun | n => n⟩
theorem Tryz.lays125 : Go.Proofs.Lays.n125 Tryz.prog Tryz.lays125_ren := {
 mixed := by kernel_rfl
 f125 := Tryz.func125.trans (congrArg some (by kernel_rfl))
 f128 := Tryz.func157.trans (congrArg some (by kernel_rfl))
 f129 := Tryz.func158.trans (congrArg some (by kernel_rfl))
 t3 := Tryz.underlying3
 a3 := Tryz.isAgg3
 z3 := Tryz.sizeOf3
 v3 := Tryz.zeroValue3
 t4 := Tryz.underlying4
 a4 := Tryz.isAgg4
 z4 := Tryz.sizeOf4
 v4 := Tryz.zeroValue4
 t5 := Tryz.underlying5
 a5 := Tryz.isAgg5
 z5 := Tryz.sizeOf5
 v5 := Tryz.zeroValue5
 t9 := Tryz.underlying9
 a9 := Tryz.isAgg9
 z9 := Tryz.sizeOf9
 v9 := Tryz.zeroValue9
 t46 := Tryz.underlying64
 a46 := Tryz.isAgg64
 z46 := Tryz.sizeOf64
 v46 := Tryz.zeroValue64
 t51 := Tryz.underlying157
 a51 := Tryz.isAgg157
 z51 := Tryz.sizeOf157
 v51 := Tryz.zeroValue157
 t53 := Tryz.underlying58
 a53 := Tryz.isAgg58
 z53 := Tryz.sizeOf58
 v53 := Tryz.zeroValue58 }
theorem Tryz.bits_Len (x : Int) (w : World) (h0 : 0 ≤ x) (h1 : x ≤ 18446744073709551615) :
   Calls Tryz.prog 125 #[.int .u64 x] w fun e w' => e = .returned (.int .i64 (Lib.bitLen x.toNat)) ∧ w' = w := Any.bits_Len Tryz.lays125 x w h0 h1
def Tryz.lays122_ren : Go.Shelf.Ren := ⟨fun | 122 => 49 | 215 => 88 | n => n, fun | 3 => 3 | 4 => 4 | n => n, fun | n => n⟩
theorem Tryz.lays122 : Go.Proofs.Lays.n122 Tryz.prog Tryz.lays122_ren := {
 mixed := by kernel_rfl
 f122 := Tryz.func49.trans (congrArg some (by kernel_rfl))
 f215 := Tryz.func88.trans (congrArg some (by kernel_rfl))
 t3 := Tryz.underlying3
 a3 := Tryz.isAgg3
 z3 := Tryz.sizeOf3
 v3 := Tryz.zeroValue3
 t4 := Tryz.underlying4
 a4 := Tryz.isAgg4
 z4 := Tryz.sizeOf4
 v4 := Tryz.zeroValue4 }
open Go.RowKit in
theorem Tryz.cmp_Compare_int (x y : Int) (w : World) :
   Calls Tryz.prog 49 #[.int .i64 x, .int .i64 y] w fun e w' => e = .returned (.int .i64 (Lib.compareInt x y)) ∧ w' = w := Any.cmp_Compare_int Tryz.lays122 x y w
open Go.RowKit in
theorem Tryz.Builder_String_any_f (B b : Nat) (l : List UInt8) (w : World) (h : Lib.IsBuilderF 71 5 B b (Lib.byteCells l) w) (hBw : B ≤ w.heap.size) :
   Calls Tryz.prog 58 #[.pointer (some ⟨b, 0, none⟩)] w fun e w' => e = .returned (.string ⟨l.toArray⟩) ∧ (Lib.IsBuilderF 71 5 B b (Lib.byteCells l) w' ∧ Below B w w') := Any.Builder_String_any_f Tryz.lays169 Tryz.Builder_Extra_169 B b l w h hBw
def Tryz.laysM171_ren : Go.Shelf.Ren := ⟨fun | 171 => 94 | 243 => 127 | 246 => 160 | 283 => 192 | 284 => 193 | 285 => 194 | 286 => 195 | 129 => 158 | 317 => 210 | 318 => 211 | 319 => 212 | 320 => 213 | 337 => 220 | 338 => 221 | n => n, fun | 3 => 3 | 9 => 9 | 2 => 2 | 4 => 4 | 171 => 188 | 0 => 0 | 53 => 58 | 37 => 53 | 5 => 5 | 173 => 190 | 212 => 208 | 51 => 157 | 20 => 20 | 213 => 209 | 46 => 64 | 232 => 220 | 233 => 221 | n => n, fun | 17 => 2 | 18 => 3 | 19 => 4 | n => n⟩
theorem Tryz.laysM171 : Go.Proofs.LaysM.n171 Tryz.prog Tryz.laysM171_ren := {
 mixed := by kernel_rfl
 f129 := Tryz.func158.trans (congrArg some (by kernel_rfl))
 f171 := Tryz.func94.trans (congrArg some (by kernel_rfl))
 f243 := Tryz.func127.trans (congrArg some (by kernel_rfl))
 f246 := Tryz.func160.trans (congrArg some (by kernel_rfl))
 f283 := Tryz.func192.trans (congrArg some (by kernel_rfl))
 f284 := Tryz.func193.trans (congrArg some (by kernel_rfl))
 f285 := Tryz.func194.trans (congrArg some (by kernel_rfl))
 f286 := Tryz.func195.trans (congrArg some (by kernel_rfl))
 f317 := Tryz.func210.trans (congrArg some (by kernel_rfl))
 f318 := Tryz.func211.trans (congrArg some (by kernel_rfl))
 f319 := Tryz.func212.trans (congrArg some (by kernel_rfl))
 f320 := Tryz.func213.trans (congrArg some (by kernel_rfl))
 f337 := Tryz.func220.trans (congrArg some (by kernel_rfl))
 f338 := Tryz.func221.trans (congrArg some (by kernel_rfl))
 t0 := Tryz.underlying0
 a0 := Tryz.isAgg0
 z0 := Tryz.sizeOf0
 v0 := Tryz.zeroValue0
 t2 := Tryz.underlying2
 a2 := Tryz.isAgg2
 z2 := Tryz.sizeOf2
 v2 := Tryz.zeroValue2
 t3 := Tryz.underlying3
 a3 := Tryz.isAgg3
 z3 := Tryz.sizeOf3
 v3 := Tryz.zeroValue3
 t4 := Tryz.underlying4
 a4 := Tryz.isAgg4
 z4 := Tryz.sizeOf4
 v4 := Tryz.zeroValue4
 t5 := Tryz.underlying5
 a5 := Tryz.isAgg5
 z5 := Tryz.sizeOf5
 v5 := Tryz.zeroValue5
 t9 := Tryz.underlying9
 a9 := Tryz.isAgg9
 z9 := Tryz.sizeOf9
 v9 := Tryz.zeroValue9
 t20 := Tryz.underlying20
 a20 := Tryz.isAgg20
 z20 := Tryz.sizeOf20
 v20 := Tryz.zeroValue20
 t37 := Tryz.underlying53
 a37 := Tryz.isAgg53
 z37 := Tryz.sizeOf53
 v37 := Tryz.zeroValue53
 t46 := Tryz.underlying64
 a46 := Tryz.isAgg64
 z46 := Tryz.sizeOf64
 v46 := Tryz.zeroValue64
 t51 := Tryz.underlying157
 a51 := Tryz.isAgg157
 z51 := Tryz.sizeOf157
 v51 := Tryz.zeroValue157
 t53 := Tryz.underlying58
 a53 := Tryz.isAgg58
 z53 := Tryz.sizeOf58
 v53 := Tryz.zeroValue58
 t171 := Tryz.underlying188
 a171 := Tryz.isAgg188
 z171 := Tryz.sizeOf188
 v171 := Tryz.zeroValue188
 t173 := Tryz.underlying190
 a173 := Tryz.isAgg190
 z173 := Tryz.sizeOf190
 v173 := Tryz.zeroValue190
 t212 := Tryz.underlying208
 a212 := Tryz.isAgg208
 z212 := Tryz.sizeOf208
 v212 := Tryz.zeroValue208
 t213 := Tryz.underlying209
 a213 := Tryz.isAgg209
 z213 := Tryz.sizeOf209
 t232 := Tryz.underlying220
 a232 := Tryz.isAgg220
 z232 := Tryz.sizeOf220
 v232 := Tryz.zeroValue220
 t233 := Tryz.underlying221
 a233 := Tryz.isAgg221
 z233 := Tryz.sizeOf221
 v233 := Tryz.zeroValue221
 g17 := by kernel_rfl
 g18 := by kernel_rfl
 g19 := by kernel_rfl
 i0 := by kernel_rfl
 i2 := by kernel_rfl
 i3 := by kernel_rfl
 i4 := by kernel_rfl
 i5 := by kernel_rfl
 i9 := by kernel_rfl
 i20 := by kernel_rfl
 i37 := by kernel_rfl
 i46 := by kernel_rfl
 i51 := by kernel_rfl
 i53 := by kernel_rfl
 i171 := by kernel_rfl
 i173 := by kernel_rfl
 i212 := by kernel_rfl
 i232 := by kernel_rfl
 i233 := by kernel_rfl
 m17 := by kernel_rfl
 m18 := by kernel_rfl
 m19 := by kernel_rfl }
open Go.RowKit Go.Sort Go.Lib in
theorem Tryz.strconv_Itoa (n : Int) (h0 : -9223372036854775808 ≤ n) (h1 : n ≤ 9223372036854775807) (w : World) (htab : Lib.TabIs Tryz.prog w "internal/strconv.uint64pow10" .u64 Lib.pow10Tab) :
   Calls Tryz.prog 94 #[.int .i64 n] w fun e w' => e = .returned (.string ⟨(Lib.itoa n).toArray⟩) ∧ ∃ k os, w' = grow (w.drewN k) os := Any.strconv_Itoa Tryz.laysM171 n h0 h1 w htab
def Tryz.laysC172_ren : Go.Shelf.Ren := ⟨fun | 172 => 98 | 244 => 128 | 245 => 129 | 247 => 161 | 279 => 162 | 280 => 163 | 281 => 164 | 282 => 165 | 287 => 196 | 316 => 197 | 171 => 94 | 205 => 198 | 321 => 214 | 322 => 215 | 243 => 127 | 246 => 160 | 283 => 192 | 284 => 193 | 285 => 194 | 286 => 195 | 129 => 158 | 317 => 210 | 318 => 211 | 319 => 212 | 320 => 213 | 337 => 220 | 338 => 221 | n => n, fun | 9 => 9 | 3 => 3 | 75 => 110 | 76 => 111 | 4 => 4 | 5 => 5 | 167 => 162 | 37 => 53 | 0 => 0 | 85 => 163 | 2 => 2 | 168 => 165 | 53 => 58 | 175 => 192 | 46 => 64 | 210 => 196 | 127 => 115 | 145 => 214 | 143 => 212 | 21 => 21 | 171 => 188 | 173 => 190 | 212 => 208 | 51 => 157 | 20 => 20 | 213 => 209 | 232 => 220 | 233 => 221 | 80 => 73 | n => n, fun | 15 => 0 | 16 => 1 | 17 => 2 | 18 => 3 | 19 => 4 | n => n⟩
theorem Tryz.laysC172 : Go.Proofs.LaysC.n172 Tryz.prog Tryz.laysC172_ren := {
 mixed := by kernel_rfl
 f129 := Tryz.func158.trans (congrArg some (by kernel_rfl))
 f171 := Tryz.func94.trans (congrArg some (by kernel_rfl))
 f172 := Tryz.func98.trans (congrArg some (by kernel_rfl))
 f205 := Tryz.func198.trans (congrArg some (by kernel_rfl))
 f243 := Tryz.func127.trans (congrArg some (by kernel_rfl))
 f244 := Tryz.func128.trans (congrArg some (by kernel_rfl))
 f245 := Tryz.func129.trans (congrArg some (by kernel_rfl))
 f246 := Tryz.func160.trans (congrArg some (by kernel_rfl))
 f247 := Tryz.func161.trans (congrArg some (by kernel_rfl))
 f279 := Tryz.func162.trans (congrArg some (by kernel_rfl))
 f280 := Tryz.func163.trans (congrArg some (by kernel_rfl))
 f281 := Tryz.func164.trans (congrArg some (by kernel_rfl))
 f282 := Tryz.func165.trans (congrArg some (by kernel_rfl))
 f283 := Tryz.func192.trans (congrArg some (by kernel_rfl))
 f284 := Tryz.func193.trans (congrArg some (by kernel_rfl))
 f285 := Tryz.func194.trans (congrArg some (by kernel_rfl))
 f286 := Tryz.func195.trans (congrArg some (by kernel_rfl))
 f287 := Tryz.func196.trans (congrArg some (by kernel_rfl))
 f316 := Tryz.func197.trans (congrArg some (by kernel_rfl))
 f317 := Tryz.func210.trans (congrArg some (by kernel_rfl))
 f318 := Tryz.func211.trans (congrArg some (by kernel_rfl))
 f319 := Tryz.func212.trans (congrArg some (by kernel_rfl))
 f320 := Tryz.func213.trans (congrArg some (by kernel_rfl))
 f321 := Tryz.func214.trans (congrArg some (by kernel_rfl))
 f322 := Tryz.func215.trans (congrArg some (by kernel_rfl))
 f337 := Tryz.func220.trans (congrArg some (by kernel_rfl))
 f338 := Tryz.func221.trans (congrArg some (by kernel_rfl))
 t0 := Tryz.underlying0
 a0 := Tryz.isAgg0
 z0 := Tryz.sizeOf0
 v0 := Tryz.zeroValue0
 t2 := Tryz.underlying2
 a2 := Tryz.isAgg2
 z2 := Tryz.sizeOf2
 v2 := Tryz.zeroValue2
 t3 := Tryz.underlying3
 a3 := Tryz.isAgg3
 z3 := Tryz.sizeOf3
 v3 := Tryz.zeroValue3
 t4 := Tryz.underlying4
 a4 := Tryz.isAgg4
 z4 := Tryz.sizeOf4
 v4 := Tryz.zeroValue4
 t5 := Tryz.underlying5
 a5 := Tryz.isAgg5
 z5 := Tryz.sizeOf5
 v5 := Tryz.zeroValue5
 t9 := Tryz.underlying9
 a9 := Tryz.isAgg9
 z9 := Tryz.sizeOf9
 v9 := Tryz.zeroValue9
 t20 := Tryz.underlying20
 a20 := Tryz.isAgg20
 z20 := Tryz.sizeOf20
 v20 := Tryz.zeroValue20
 t21 := Tryz.underlying21
 a21 := Tryz.isAgg21
 z21 := Tryz.sizeOf21
 v21 := Tryz.zeroValue21
 t37 := Tryz.underlying53
 a37 := Tryz.isAgg53
 z37 := Tryz.sizeOf53
 v37 := Tryz.zeroValue53
 t46 := Tryz.underlying64
 a46 := Tryz.isAgg64
 z46 := Tryz.sizeOf64
 v46 := Tryz.zeroValue64
 t51 := Tryz.underlying157
 a51 := Tryz.isAgg157
 z51 := Tryz.sizeOf157
 v51 := Tryz.zeroValue157
 t53 := Tryz.underlying58
 a53 := Tryz.isAgg58
 z53 := Tryz.sizeOf58
 v53 := Tryz.zeroValue58
 t75 := Tryz.underlying110
 a75 := Tryz.isAgg110
 z75 := Tryz.sizeOf110
 v75 := Tryz.zeroValue110
 t76 := Tryz.underlying111
 a76 := Tryz.isAgg111
 z76 := Tryz.sizeOf111
 v76 := Tryz.zeroValue111
 t85 := Tryz.underlying163
 a85 := Tryz.isAgg163
 z85 := Tryz.sizeOf163
 v85 := Tryz.zeroValue163
 t127 := Tryz.underlying115
 a127 := Tryz.isAgg115
 z127 := Tryz.sizeOf115
 v127 := Tryz.zeroValue115
 t143 := Tryz.underlying212
 a143 := Tryz.isAgg212
 z143 := Tryz.sizeOf212
 v143 := Tryz.zeroValue212
 t145 := Tryz.underlying214
 a145 := Tryz.isAgg214
 z145 := Tryz.sizeOf214
 v145 := Tryz.zeroValue214
 t167 := Tryz.underlying162
 a167 := Tryz.isAgg162
 z167 := Tryz.sizeOf162
 v167 := Tryz.zeroValue162
 t168 := Tryz.underlying165
 a168 := Tryz.isAgg165
 z168 := Tryz.sizeOf165
 v168 := Tryz.zeroValue165
 t171 := Tryz.underlying188
 a171 := Tryz.isAgg188
 z171 := Tryz.sizeOf188
 v171 := Tryz.zeroValue188
 t173 := Tryz.underlying190
 a173 := Tryz.isAgg190
 z173 := Tryz.sizeOf190
 v173 := Tryz.zeroValue190
 t175 := Tryz.underlying192
 a175 := Tryz.isAgg192
 z175 := Tryz.sizeOf192
 v175 := Tryz.zeroValue192
 t210 := Tryz.underlying196
 a210 := Tryz.isAgg196
 z210 := Tryz.sizeOf196
 v210 := Tryz.zeroValue196
 t212 := Tryz.underlying208
 a212 := Tryz.isAgg208
 z212 := Tryz.sizeOf208
 v212 := Tryz.zeroValue208
 t213 := Tryz.underlying209
 a213 := Tryz.isAgg209
 z213 := Tryz.sizeOf209
 t232 := Tryz.underlying220
 a232 := Tryz.isAgg220
 z232 := Tryz.sizeOf220
 v232 := Tryz.zeroValue220
 t233 := Tryz.underlying221
 a233 := Tryz.isAgg221
 z233 := Tryz.sizeOf221
 v233 := Tryz.zeroValue221
 g15 := by kernel_rfl
 g16 := by kernel_rfl
 g17 := by kernel_rfl
 g18 := by kernel_rfl
 g19 := by kernel_rfl
 t80 := Tryz.underlying73
 a80 := Tryz.isAgg73
 z80 := Tryz.sizeOf73
 v80 := Tryz.zeroValue73
 i0 := by kernel_rfl
 i2 := by kernel_rfl
 i3 := by kernel_rfl
 i4 := by kernel_rfl
 i5 := by kernel_rfl
 i9 := by kernel_rfl
 i20 := by kernel_rfl
 i21 := by kernel_rfl
 i37 := by kernel_rfl
 i46 := by kernel_rfl
 i51 := by kernel_rfl
 i53 := by kernel_rfl
 i75 := by kernel_rfl
 i76 := by kernel_rfl
 i80 := by kernel_rfl
 i85 := by kernel_rfl
 i127 := by kernel_rfl
 i143 := by kernel_rfl
 i145 := by kernel_rfl
 i167 := by kernel_rfl
 i168 := by kernel_rfl
 i171 := by kernel_rfl
 i173 := by kernel_rfl
 i175 := by kernel_rfl
 i210 := by kernel_rfl
 i212 := by kernel_rfl
 i232 := by kernel_rfl
 i233 := by kernel_rfl
 m15 := by kernel_rfl
 m16 := by kernel_rfl
 m17 := by kernel_rfl
 m18 := by kernel_rfl
 m19 := by kernel_rfl
 c0 := by kernel_rfl
 c2 := by kernel_rfl
 c3 := by kernel_rfl
 c4 := by kernel_rfl
 c5 := by kernel_rfl
 c9 := by kernel_rfl
 c20 := by kernel_rfl
 c21 := by kernel_rfl
 c37 := by kernel_rfl
 c46 := by kernel_rfl
 c51 := by kernel_rfl
 c53 := by kernel_rfl
 c75 := by kernel_rfl
 c76 := by kernel_rfl
 c80 := by kernel_rfl
 c85 := by kernel_rfl
 c127 := by kernel_rfl
 c143 := by kernel_rfl
 c145 := by kernel_rfl
 c167 := by kernel_rfl
 c168 := by kernel_rfl
 c171 := by kernel_rfl
 c173 := by kernel_rfl
 c175 := by kernel_rfl
 c210 := by kernel_rfl
 c212 := by kernel_rfl
 c213 := by kernel_rfl
 c232 := by kernel_rfl
 c233 := by kernel_rfl }
open Go.RowKit in
theorem Tryz.strconv_Atoi_ok (s : ByteArray) (hmax : s.size ≤ 9223372036854775806) (v : Int) (h : Lib.atoiAll s.data.toList = .ok v) (w : World) :
   Calls Tryz.prog 98 #[.string s] w fun e w' => e = .returned (.tuple #[.int .i64 v, .nilIface]) ∧ (w' = w ∨ ∃ t, w' = Lib.bytesWorld w 5 t) := Any.strconv_Atoi_ok Tryz.laysC172 s hmax v h w
open Go.RowKit in
theorem Tryz.strconv_Atoi_syntax_var (s : ByteArray) (hlim : s.size ≤ 281474976710656) (h1 : ∀ v, Lib.atoiAll s.data.toList ≠ .ok v) (h2 : Lib.atoiAll s.data.toList ≠ .range) (tp : TypeId) (p : Value) (w : World) (hvar : w.var? Tryz.prog "strconv.ErrSyntax" = some #[.iface tp p]) :
   Calls Tryz.prog 98 #[.string s] w fun e w' => ∃ N, e = .returned (.tuple #[.int .i64 0, .iface 165 (.pointer (some ⟨N, 0, none⟩))]) ∧ w.heap.size ≤ N ∧ w'.heap[N]? = some (.cells #[.string ⟨#[65, 116, 111, 105]⟩, .string s, .iface tp p] 196 (0, 0)) ∧ Below w.heap.size w w' := Any.strconv_Atoi_syntax_var Tryz.laysC172 s hlim (by cases hh : Lib.atoiAll s.data.toList <;> first | rfl | exact absurd hh (h1 _) | exact absurd hh h2) tp p w hvar
open Go.RowKit in
theorem Tryz.strconv_Atoi_range_var (s : ByteArray) (hlim : s.size ≤ 281474976710656) (h : Lib.atoiAll s.data.toList = .range) (tp : TypeId) (p : Value) (w : World) (hvar : w.var? Tryz.prog "strconv.ErrRange" = some #[.iface tp p]) :
   Calls Tryz.prog 98 #[.string s] w fun e w' => ∃ N, e = .returned (.tuple #[.int .i64 (Lib.atoiSat s.data.toList), .iface 165 (.pointer (some ⟨N, 0, none⟩))]) ∧ w.heap.size ≤ N ∧ w'.heap[N]? = some (.cells #[.string ⟨#[65, 116, 111, 105]⟩, .string s, .iface tp p] 196 (0, 0)) ∧ Below w.heap.size w w' := Any.strconv_Atoi_range_var Tryz.laysC172 s hlim h tp p w hvar
def Tryz.lays212_ren : Go.Shelf.Ren := ⟨fun | 212 => 199 | 263 => 216 | 264 => 217 | n => n, fun | 46 => 64 | 51 => 157 | 146 => 215 | 53 => 58 | 148 => 217 | n => n, fun | n => n⟩
theorem Tryz.lays212 : Go.Proofs.Lays.n212 Tryz.prog Tryz.lays212_ren := {
 mixed := by kernel_rfl
 f212 := Tryz.func199.trans (congrArg some (by kernel_rfl))
 f263 := Tryz.func216.trans (congrArg some (by kernel_rfl))
 f264 := Tryz.func217.trans (congrArg some (by kernel_rfl))
 t46 := Tryz.underlying64
 a46 := Tryz.isAgg64
 z46 := Tryz.sizeOf64
 v46 := Tryz.zeroValue64
 t51 := Tryz.underlying157
 a51 := Tryz.isAgg157
 z51 := Tryz.sizeOf157
 v51 := Tryz.zeroValue157
 t53 := Tryz.underlying58
 a53 := Tryz.isAgg58
 z53 := Tryz.sizeOf58
 v53 := Tryz.zeroValue58
 t146 := Tryz.underlying215
 a146 := Tryz.isAgg215
 z146 := Tryz.sizeOf215
 v146 := Tryz.zeroValue215
 t148 := Tryz.underlying217
 a148 := Tryz.isAgg217
 z148 := Tryz.sizeOf217
 v148 := Tryz.zeroValue217 }
open Go.RowKit Go.Lib in
theorem Tryz.bits_Mul (x y : Nat) (hx : x < 18446744073709551616) (hy : y < 18446744073709551616) (w : World) :
   Calls Tryz.prog 199 #[.int .u64 x, .int .u64 y] w fun e w' => e = .returned (.tuple #[.int .u64 ((x * y / 18446744073709551616 : Nat) : Int), .int .u64 ((x * y % 18446744073709551616 : Nat) : Int)]) ∧ w' = w := Any.bits_Mul Tryz.lays212 x y hx hy w
end Go.Proofs
