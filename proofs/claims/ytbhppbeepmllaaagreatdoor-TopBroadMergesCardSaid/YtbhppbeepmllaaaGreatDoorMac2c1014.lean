import Derived.Shelf.Strings.Builder1
import Derived.Shelf.Strings.BuilderF
import Derived.Shelf.Strings.BuilderK
import Derived.Shelf.Strconv.Itoa4
import Derived.Shelf.LaysM
import Derived.Shelf.LaysC
import Derived.Shelf.Strconv.ParseIntPublic10
import Derived.Shelf.Strings.Search3
import Derived.Shelf.Bits.Mul64
import Derived.Ground.SlgnProg
import Derived.Shelf.SlicesE.Clone
import Derived.Test.YtbhppbeepmllaaaGreatDoorProg
set_option linter.unusedVariables false
set_option linter.unusedSimpArgs false
namespace Go.Proofs
open Go.Shelf
def Tryz.lays169_ren : Go.Shelf.Ren := ⟨fun | 169 => 89 | n => n, fun | 70 => 175 | 9 => 9 | 0 => 0 | 72 => 177 | 37 => 45 | 127 => 252 | 3 => 3 | 5 => 5 | n => n, fun | n => n⟩
theorem Tryz.lays169 : Go.Proofs.Lays.n169 Tryz.prog Tryz.lays169_ren := {
 mixed := by kernel_rfl
 f169 := Tryz.func89.trans (congrArg some (by kernel_rfl))
 t0 := Tryz.underlying0
 a0 := Tryz.isAgg0
 z0 := Tryz.sizeOf0
 v0 := Tryz.zeroValue0
 t3 := Tryz.underlying3
 a3 := Tryz.isAgg3
 z3 := Tryz.sizeOf3
 v3 := Tryz.zeroValue3
 t9 := Tryz.underlying9
 a9 := Tryz.isAgg9
 z9 := Tryz.sizeOf9
 v9 := Tryz.zeroValue9
 t37 := Tryz.underlying45
 a37 := Tryz.isAgg45
 z37 := Tryz.sizeOf45
 v37 := Tryz.zeroValue45
 t70 := Tryz.underlying175
 a70 := Tryz.isAgg175
 z70 := Tryz.sizeOf175
 v70 := Tryz.zeroValue175
 t72 := Tryz.underlying177
 a72 := Tryz.isAgg177
 z72 := Tryz.sizeOf177
 v72 := Tryz.zeroValue177
 t127 := Tryz.underlying252
 a127 := Tryz.isAgg252
 z127 := Tryz.sizeOf252
 v127 := Tryz.zeroValue252 }
theorem Tryz.Builder_Extra_169 : Builder.Extra Tryz.prog Tryz.lays169_ren := {
 sizeBuilder := by kernel_rfl
 liesBuilder := by kernel_rfl
 t5 := Tryz.underlying5
 a5 := Tryz.isAgg5
 z5 := Tryz.sizeOf5
 v5 := Tryz.zeroValue5
 infoByte := by kernel_rfl
 cellsByte := by kernel_rfl
 sizeByte := by kernel_rfl
 neB5 := by decide }
open Go.RowKit in
theorem Tryz.Builder_String_any (B b : Nat) (l : List UInt8) (w : World) (h : Lib.IsBuilder 177 5 B b (Lib.byteCells l) w) (hBw : B ≤ w.heap.size) :
  Calls Tryz.prog 89 #[.pointer (some ⟨b, 0, none⟩)] w fun e w' => e = .returned (.string ⟨l.toArray⟩) ∧ Below B w w' := Any.Builder_String_any Tryz.lays169 Tryz.Builder_Extra_169 B b l w h hBw
open Go.RowKit in
theorem Tryz.Builder_String_any_f (B b : Nat) (l : List UInt8) (w : World) (h : Lib.IsBuilderF 177 5 B b (Lib.byteCells l) w) (hBw : B ≤ w.heap.size) :
  Calls Tryz.prog 89 #[.pointer (some ⟨b, 0, none⟩)] w fun e w' => e = .returned (.string ⟨l.toArray⟩) ∧ (Lib.IsBuilderF 177 5 B b (Lib.byteCells l) w' ∧ Below B w w') := Any.Builder_String_any_f Tryz.lays169 Tryz.Builder_Extra_169 B b l w h hBw
open Go.RowKit in
theorem Tryz.Builder_String_any_k (B b : Nat) (l : List UInt8) (w : World) (h : Lib.IsBuilderF 177 5 B b (Lib.byteCells l) w) (hBw : B ≤ w.heap.size) :
  Calls Tryz.prog 89 #[.pointer (some ⟨b, 0, none⟩)] w fun e w' => e = .returned (.string ⟨l.toArray⟩) ∧ (Lib.IsBuilderF 177 5 B b (Lib.byteCells l) w' ∧ Below B w w' ∧ Lib.OthersKept 5 (some b) w w') := Any.Builder_String_any_k Tryz.lays169 Tryz.Builder_Extra_169 B b l w h hBw
def Tryz.lays129_ren : Go.Shelf.Ren := ⟨fun | 129 => 137 | n => n, fun | 53 => 22 | 3 => 3 | 4 => 4 | 46 => 49 | 5 => 5 | 9 => 9 | n => n, fun | n => n⟩
theorem Tryz.lays129 : Go.Proofs.Lays.n129 Tryz.prog Tryz.lays129_ren := {
 mixed := by kernel_rfl
 f129 := Tryz.func137.trans (congrArg some (by kernel_rfl))
 t3 := Tryz.underlying3
 a3 := Tryz.isAgg3
 z3 := Tryz.sizeOf3
 v3 := Tryz.zeroValue3
 t4 := Tryz.underlying4
 a4 := Tryz.isAgg4
 z4 := Tryz.sizeOf4
 v4 := Tryz.zeroValue4
 t5 := Tryz.underlying5
 a5 := Tryz.isAgg5
 z5 := Tryz.sizeOf5
 v5 := Tryz.zeroValue5
 t9 := Tryz.underlying9
 a9 := Tryz.isAgg9
 z9 := Tryz.sizeOf9
 v9 := Tryz.zeroValue9
 t46 := Tryz.underlying49
 a46 := Tryz.isAgg49
 z46 := Tryz.sizeOf49
 v46 := Tryz.zeroValue49
 t53 := Tryz.underlying22
 a53 := Tryz.isAgg22
 z53 := Tryz.sizeOf22
 v53 := Tryz.zeroValue22 }
theorem Tryz.bits_Len64 (x : Int) (w : World) (h0 : 0 ≤ x) (h1 : x ≤ 18446744073709551615) :
  Calls Tryz.prog 137 #[.int .u64 x] w fun e w' => e = .returned (.int .i64 (Lib.bitLen x.toNat)) ∧ w' = w := Any.bits_Len64 Tryz.lays129 x w h0 h1
def Tryz.laysM171_ren : Go.Shelf.Ren := ⟨fun | 171 => 50 | 243 => 77 | 246 => 108 | 283 => 148 | 284 => 149 | 285 => 150 | 286 => 151 | 129 => 137 | 317 => 180 | 318 => 181 | 319 => 182 | 320 => 183 | 337 => 217 | 338 => 218 | n => n, fun | 3 => 3 | 9 => 9 | 2 => 2 | 4 => 4 | 171 => 267 | 0 => 0 | 53 => 22 | 37 => 45 | 5 => 5 | 173 => 269 | 212 => 317 | 51 => 115 | 20 => 20 | 213 => 318 | 46 => 49 | 232 => 378 | 233 => 379 | n => n, fun | 17 => 4 | 18 => 6 | 19 => 7 | n => n⟩
theorem Tryz.laysM171 : Go.Proofs.LaysM.n171 Tryz.prog Tryz.laysM171_ren := {
 mixed := by kernel_rfl
 f129 := Tryz.func137.trans (congrArg some (by kernel_rfl))
 f171 := Tryz.func50.trans (congrArg some (by kernel_rfl))
 f243 := Tryz.func77.trans (congrArg some (by kernel_rfl))
 f246 := Tryz.func108.trans (congrArg some (by kernel_rfl))
 f283 := Tryz.func148.trans (congrArg some (by kernel_rfl))
 f284 := Tryz.func149.trans (congrArg some (by kernel_rfl))
 f285 := Tryz.func150.trans (congrArg some (by kernel_rfl))
 f286 := Tryz.func151.trans (congrArg some (by kernel_rfl))
 f317 := Tryz.func180.trans (congrArg some (by kernel_rfl))
 f318 := Tryz.func181.trans (congrArg some (by kernel_rfl))
 f319 := Tryz.func182.trans (congrArg some (by kernel_rfl))
 f320 := Tryz.func183.trans (congrArg some (by kernel_rfl))
 f337 := Tryz.func217.trans (congrArg some (by kernel_rfl))
 f338 := Tryz.func218.trans (congrArg some (by kernel_rfl))
 t0 := Tryz.underlying0
 a0 := Tryz.isAgg0
 z0 := Tryz.sizeOf0
 v0 := Tryz.zeroValue0
 t2 := Tryz.underlying2
 a2 := Tryz.isAgg2
 z2 := Tryz.sizeOf2
 v2 := Tryz.zeroValue2
 t3 := Tryz.underlying3
 a3 := Tryz.isAgg3
 z3 := Tryz.sizeOf3
 v3 := Tryz.zeroValue3
 t4 := Tryz.underlying4
 a4 := Tryz.isAgg4
 z4 := Tryz.sizeOf4
 v4 := Tryz.zeroValue4
 t5 := Tryz.underlying5
 a5 := Tryz.isAgg5
 z5 := Tryz.sizeOf5
 v5 := Tryz.zeroValue5
 t9 := Tryz.underlying9
 a9 := Tryz.isAgg9
 z9 := Tryz.sizeOf9
 v9 := Tryz.zeroValue9
 t20 := Tryz.underlying20
 a20 := Tryz.isAgg20
 z20 := Tryz.sizeOf20
 v20 := Tryz.zeroValue20
 t37 := Tryz.underlying45
 a37 := Tryz.isAgg45
 z37 := Tryz.sizeOf45
 v37 := Tryz.zeroValue45
 t46 := Tryz.underlying49
 a46 := Tryz.isAgg49
 z46 := Tryz.sizeOf49
 v46 := Tryz.zeroValue49
 t51 := Tryz.underlying115
 a51 := Tryz.isAgg115
 z51 := Tryz.sizeOf115
 v51 := Tryz.zeroValue115
 t53 := Tryz.underlying22
 a53 := Tryz.isAgg22
 z53 := Tryz.sizeOf22
 v53 := Tryz.zeroValue22
 t171 := Tryz.underlying267
 a171 := Tryz.isAgg267
 z171 := Tryz.sizeOf267
 v171 := Tryz.zeroValue267
 t173 := Tryz.underlying269
 a173 := Tryz.isAgg269
 z173 := Tryz.sizeOf269
 v173 := Tryz.zeroValue269
 t212 := Tryz.underlying317
 a212 := Tryz.isAgg317
 z212 := Tryz.sizeOf317
 v212 := Tryz.zeroValue317
 t213 := Tryz.underlying318
 a213 := Tryz.isAgg318
 z213 := Tryz.sizeOf318
 t232 := Tryz.underlying378
 a232 := Tryz.isAgg378
 z232 := Tryz.sizeOf378
 v232 := Tryz.zeroValue378
 t233 := Tryz.underlying379
 a233 := Tryz.isAgg379
 z233 := Tryz.sizeOf379
 v233 := Tryz.zeroValue379
 g17 := by kernel_rfl
 g18 := by kernel_rfl
 g19 := by kernel_rfl
 i0 := by kernel_rfl
 i2 := by kernel_rfl
 i3 := by kernel_rfl
 i4 := by kernel_rfl
 i5 := by kernel_rfl
 i9 := by kernel_rfl
 i20 := by kernel_rfl
 i37 := by kernel_rfl
 i46 := by kernel_rfl
 i51 := by kernel_rfl
 i53 := by kernel_rfl
 i171 := by kernel_rfl
 i173 := by kernel_rfl
 i212 := by kernel_rfl
 i232 := by kernel_rfl
 i233 := by kernel_rfl
 m17 := by kernel_rfl
 m18 := by kernel_rfl
 m19 := by kernel_rfl }
open Go.RowKit Go.Sort Go.Lib in
theorem Tryz.strconv_Itoa (n : Int) (h0 : -9223372036854775808 ≤ n) (h1 : n ≤ 9223372036854775807) (w : World) (htab : Lib.TabIs Tryz.prog w "internal/strconv.uint64pow10" .u64 Lib.pow10Tab) :
  Calls Tryz.prog 50 #[.int .i64 n] w fun e w' => e = .returned (.string ⟨(Lib.itoa n).toArray⟩) ∧ ∃ k os, w' = grow (w.drewN k) os := Any.strconv_Itoa Tryz.laysM171 n h0 h1 w htab
def Tryz.laysM173_ren : Go.Shelf.Ren := ⟨fun | 173 => 84 | 246 => 108 | 283 => 148 | 284 => 149 | 285 => 150 | 286 => 151 | 129 => 137 | 317 => 180 | 318 => 181 | 319 => 182 | 320 => 183 | 337 => 217 | 338 => 218 | n => n, fun | 2 => 2 | 3 => 3 | 9 => 9 | 4 => 4 | 171 => 267 | 0 => 0 | 53 => 22 | 37 => 45 | 5 => 5 | 173 => 269 | 212 => 317 | 51 => 115 | 20 => 20 | 213 => 318 | 46 => 49 | 232 => 378 | 233 => 379 | n => n, fun | 17 => 4 | 18 => 6 | 19 => 7 | n => n⟩
theorem Tryz.laysM173 : Go.Proofs.LaysM.n173 Tryz.prog Tryz.laysM173_ren := {
 mixed := by kernel_rfl
 f129 := Tryz.func137.trans (congrArg some (by kernel_rfl))
 f173 := Tryz.func84.trans (congrArg some (by kernel_rfl))
 f246 := Tryz.func108.trans (congrArg some (by kernel_rfl))
 f283 := Tryz.func148.trans (congrArg some (by kernel_rfl))
 f284 := Tryz.func149.trans (congrArg some (by kernel_rfl))
 f285 := Tryz.func150.trans (congrArg some (by kernel_rfl))
 f286 := Tryz.func151.trans (congrArg some (by kernel_rfl))
 f317 := Tryz.func180.trans (congrArg some (by kernel_rfl))
 f318 := Tryz.func181.trans (congrArg some (by kernel_rfl))
 f319 := Tryz.func182.trans (congrArg some (by kernel_rfl))
 f320 := Tryz.func183.trans (congrArg some (by kernel_rfl))
 f337 := Tryz.func217.trans (congrArg some (by kernel_rfl))
 f338 := Tryz.func218.trans (congrArg some (by kernel_rfl))
 t0 := Tryz.underlying0
 a0 := Tryz.isAgg0
 z0 := Tryz.sizeOf0
 v0 := Tryz.zeroValue0
 t2 := Tryz.underlying2
 a2 := Tryz.isAgg2
 z2 := Tryz.sizeOf2
 v2 := Tryz.zeroValue2
 t3 := Tryz.underlying3
 a3 := Tryz.isAgg3
 z3 := Tryz.sizeOf3
 v3 := Tryz.zeroValue3
 t4 := Tryz.underlying4
 a4 := Tryz.isAgg4
 z4 := Tryz.sizeOf4
 v4 := Tryz.zeroValue4
 t5 := Tryz.underlying5
 a5 := Tryz.isAgg5
 z5 := Tryz.sizeOf5
 v5 := Tryz.zeroValue5
 t9 := Tryz.underlying9
 a9 := Tryz.isAgg9
 z9 := Tryz.sizeOf9
 v9 := Tryz.zeroValue9
 t20 := Tryz.underlying20
 a20 := Tryz.isAgg20
 z20 := Tryz.sizeOf20
 v20 := Tryz.zeroValue20
 t37 := Tryz.underlying45
 a37 := Tryz.isAgg45
 z37 := Tryz.sizeOf45
 v37 := Tryz.zeroValue45
 t46 := Tryz.underlying49
 a46 := Tryz.isAgg49
 z46 := Tryz.sizeOf49
 v46 := Tryz.zeroValue49
 t51 := Tryz.underlying115
 a51 := Tryz.isAgg115
 z51 := Tryz.sizeOf115
 v51 := Tryz.zeroValue115
 t53 := Tryz.underlying22
 a53 := Tryz.isAgg22
 z53 := Tryz.sizeOf22
 v53 := Tryz.zeroValue22
 t171 := Tryz.underlying267
 a171 := Tryz.isAgg267
 z171 := Tryz.sizeOf267
 v171 := Tryz.zeroValue267
 t173 := Tryz.underlying269
 a173 := Tryz.isAgg269
 z173 := Tryz.sizeOf269
 v173 := Tryz.zeroValue269
 t212 := Tryz.underlying317
 a212 := Tryz.isAgg317
 z212 := Tryz.sizeOf317
 v212 := Tryz.zeroValue317
 t213 := Tryz.underlying318
 a213 := Tryz.isAgg318
 z213 := Tryz.sizeOf318
 t232 := Tryz.underlying378
 a232 := Tryz.isAgg378
 z232 := Tryz.sizeOf378
 v232 := Tryz.zeroValue378
 t233 := Tryz.underlying379
 a233 := Tryz.isAgg379
 z233 := Tryz.sizeOf379
 v233 := Tryz.zeroValue379
 g17 := by kernel_rfl
 g18 := by kernel_rfl
 g19 := by kernel_rfl
 i0 := by kernel_rfl
 i2 := by kernel_rfl
 i3 := by kernel_rfl
 i4 := by kernel_rfl
 i5 := by kernel_rfl
 i9 := by kernel_rfl
 i20 := by kernel_rfl
 i37 := by kernel_rfl
 i46 := by kernel_rfl
 i51 := by kernel_rfl
 i53 := by kernel_rfl
 i171 := by kernel_rfl
 i173 := by kernel_rfl
 i212 := by kernel_rfl
 i232 := by kernel_rfl
 i233 := by kernel_rfl
 m17 := by kernel_rfl
 m18 := by kernel_rfl
 m19 := by kernel_rfl }
open Go.RowKit Go.Sort Go.Lib in
theorem Tryz.strconv_FormatInt_10 (n : Int) (h0 : -9223372036854775808 ≤ n) (h1 : n ≤ 9223372036854775807) (w : World) (htab : Lib.TabIs Tryz.prog w "internal/strconv.uint64pow10" .u64 Lib.pow10Tab) :
  Calls Tryz.prog 84 #[.int .i64 n, .int .i64 10] w fun e w' => e = .returned (.string ⟨(Lib.itoa n).toArray⟩) ∧ ∃ k os, w' = grow (w.drewN k) os := Any.strconv_FormatInt_10 Tryz.laysM173 n h0 h1 w htab
def Tryz.laysC174_ren : Go.Shelf.Ren := ⟨fun | 174 => 179 | 247 => 215 | 245 => 216 | 287 => 242 | 279 => 243 | 280 => 244 | 281 => 245 | 282 => 246 | 321 => 262 | 322 => 263 | 316 => 264 | 171 => 50 | 205 => 265 | 243 => 77 | 246 => 108 | 283 => 148 | 284 => 149 | 285 => 150 | 286 => 151 | 129 => 137 | 317 => 180 | 318 => 181 | 319 => 182 | 320 => 183 | 337 => 217 | 338 => 218 | n => n, fun | 9 => 9 | 3 => 3 | 2 => 2 | 75 => 196 | 85 => 314 | 4 => 4 | 167 => 372 | 5 => 5 | 53 => 22 | 175 => 373 | 46 => 49 | 168 => 375 | 37 => 45 | 0 => 0 | 210 => 396 | 21 => 21 | 127 => 252 | 145 => 406 | 143 => 404 | 171 => 267 | 173 => 269 | 212 => 317 | 51 => 115 | 20 => 20 | 213 => 318 | 232 => 378 | 233 => 379 | 80 => 107 | n => n, fun | 15 => 8 | 16 => 9 | 17 => 4 | 18 => 6 | 19 => 7 | n => n⟩
theorem Tryz.laysC174 : Go.Proofs.LaysC.n174 Tryz.prog Tryz.laysC174_ren := {
 mixed := by kernel_rfl
 f129 := Tryz.func137.trans (congrArg some (by kernel_rfl))
 f171 := Tryz.func50.trans (congrArg some (by kernel_rfl))
 f174 := Tryz.func179.trans (congrArg some (by kernel_rfl))
 f205 := Tryz.func265.trans (congrArg some (by kernel_rfl))
 f243 := Tryz.func77.trans (congrArg some (by kernel_rfl))
 f245 := Tryz.func216.trans (congrArg some (by kernel_rfl))
 f246 := Tryz.func108.trans (congrArg some (by kernel_rfl))
 f247 := Tryz.func215.trans (congrArg some (by kernel_rfl))
 f279 := Tryz.func243.trans (congrArg some (by kernel_rfl))
 f280 := Tryz.func244.trans (congrArg some (by kernel_rfl))
 f281 := Tryz.func245.trans (congrArg some (by kernel_rfl))
 f282 := Tryz.func246.trans (congrArg some (by kernel_rfl))
 f283 := Tryz.func148.trans (congrArg some (by kernel_rfl))
 f284 := Tryz.func149.trans (congrArg some (by kernel_rfl))
 f285 := Tryz.func150.trans (congrArg some (by kernel_rfl))
 f286 := Tryz.func151.trans (congrArg some (by kernel_rfl))
 f287 := Tryz.func242.trans (congrArg some (by kernel_rfl))
 f316 := Tryz.func264.trans (congrArg some (by kernel_rfl))
 f317 := Tryz.func180.trans (congrArg some (by kernel_rfl))
 f318 := Tryz.func181.trans (congrArg some (by kernel_rfl))
 f319 := Tryz.func182.trans (congrArg some (by kernel_rfl))
 f320 := Tryz.func183.trans (congrArg some (by kernel_rfl))
 f321 := Tryz.func262.trans (congrArg some (by kernel_rfl))
 f322 := Tryz.func263.trans (congrArg some (by kernel_rfl))
 f337 := Tryz.func217.trans (congrArg some (by kernel_rfl))
 f338 := Tryz.func218.trans (congrArg some (by kernel_rfl))
 t0 := Tryz.underlying0
 a0 := Tryz.isAgg0
 z0 := Tryz.sizeOf0
 v0 := Tryz.zeroValue0
 t2 := Tryz.underlying2
 a2 := Tryz.isAgg2
 z2 := Tryz.sizeOf2
 v2 := Tryz.zeroValue2
 t3 := Tryz.underlying3
 a3 := Tryz.isAgg3
 z3 := Tryz.sizeOf3
 v3 := Tryz.zeroValue3
 t4 := Tryz.underlying4
 a4 := Tryz.isAgg4
 z4 := Tryz.sizeOf4
 v4 := Tryz.zeroValue4
 t5 := Tryz.underlying5
 a5 := Tryz.isAgg5
 z5 := Tryz.sizeOf5
 v5 := Tryz.zeroValue5
 t9 := Tryz.underlying9
 a9 := Tryz.isAgg9
 z9 := Tryz.sizeOf9
 v9 := Tryz.zeroValue9
 t20 := Tryz.underlying20
 a20 := Tryz.isAgg20
 z20 := Tryz.sizeOf20
 v20 := Tryz.zeroValue20
 t21 := Tryz.underlying21
 a21 := Tryz.isAgg21
 z21 := Tryz.sizeOf21
 v21 := Tryz.zeroValue21
 t37 := Tryz.underlying45
 a37 := Tryz.isAgg45
 z37 := Tryz.sizeOf45
 v37 := Tryz.zeroValue45
 t46 := Tryz.underlying49
 a46 := Tryz.isAgg49
 z46 := Tryz.sizeOf49
 v46 := Tryz.zeroValue49
 t51 := Tryz.underlying115
 a51 := Tryz.isAgg115
 z51 := Tryz.sizeOf115
 v51 := Tryz.zeroValue115
 t53 := Tryz.underlying22
 a53 := Tryz.isAgg22
 z53 := Tryz.sizeOf22
 v53 := Tryz.zeroValue22
 t75 := Tryz.underlying196
 a75 := Tryz.isAgg196
 z75 := Tryz.sizeOf196
 v75 := Tryz.zeroValue196
 t85 := Tryz.underlying314
 a85 := Tryz.isAgg314
 z85 := Tryz.sizeOf314
 v85 := Tryz.zeroValue314
 t127 := Tryz.underlying252
 a127 := Tryz.isAgg252
 z127 := Tryz.sizeOf252
 v127 := Tryz.zeroValue252
 t143 := Tryz.underlying404
 a143 := Tryz.isAgg404
 z143 := Tryz.sizeOf404
 v143 := Tryz.zeroValue404
 t145 := Tryz.underlying406
 a145 := Tryz.isAgg406
 z145 := Tryz.sizeOf406
 v145 := Tryz.zeroValue406
 t167 := Tryz.underlying372
 a167 := Tryz.isAgg372
 z167 := Tryz.sizeOf372
 v167 := Tryz.zeroValue372
 t168 := Tryz.underlying375
 a168 := Tryz.isAgg375
 z168 := Tryz.sizeOf375
 v168 := Tryz.zeroValue375
 t171 := Tryz.underlying267
 a171 := Tryz.isAgg267
 z171 := Tryz.sizeOf267
 v171 := Tryz.zeroValue267
 t173 := Tryz.underlying269
 a173 := Tryz.isAgg269
 z173 := Tryz.sizeOf269
 v173 := Tryz.zeroValue269
 t175 := Tryz.underlying373
 a175 := Tryz.isAgg373
 z175 := Tryz.sizeOf373
 v175 := Tryz.zeroValue373
 t210 := Tryz.underlying396
 a210 := Tryz.isAgg396
 z210 := Tryz.sizeOf396
 v210 := Tryz.zeroValue396
 t212 := Tryz.underlying317
 a212 := Tryz.isAgg317
 z212 := Tryz.sizeOf317
 v212 := Tryz.zeroValue317
 t213 := Tryz.underlying318
 a213 := Tryz.isAgg318
 z213 := Tryz.sizeOf318
 t232 := Tryz.underlying378
 a232 := Tryz.isAgg378
 z232 := Tryz.sizeOf378
 v232 := Tryz.zeroValue378
 t233 := Tryz.underlying379
 a233 := Tryz.isAgg379
 z233 := Tryz.sizeOf379
 v233 := Tryz.zeroValue379
 g15 := by kernel_rfl
 g16 := by kernel_rfl
 g17 := by kernel_rfl
 g18 := by kernel_rfl
 g19 := by kernel_rfl
 t80 := Tryz.underlying107
 a80 := Tryz.isAgg107
 z80 := Tryz.sizeOf107
 v80 := Tryz.zeroValue107
 i0 := by kernel_rfl
 i2 := by kernel_rfl
 i3 := by kernel_rfl
 i4 := by kernel_rfl
 i5 := by kernel_rfl
 i9 := by kernel_rfl
 i20 := by kernel_rfl
 i21 := by kernel_rfl
 i37 := by kernel_rfl
 i46 := by kernel_rfl
 i51 := by kernel_rfl
 i53 := by kernel_rfl
 i75 := by kernel_rfl
 i80 := by kernel_rfl
 i85 := by kernel_rfl
 i127 := by kernel_rfl
 i143 := by kernel_rfl
 i145 := by kernel_rfl
 i167 := by kernel_rfl
 i168 := by kernel_rfl
 i171 := by kernel_rfl
 i173 := by kernel_rfl
 i175 := by kernel_rfl
 i210 := by kernel_rfl
 i212 := by kernel_rfl
 i232 := by kernel_rfl
 i233 := by kernel_rfl
 m15 := by kernel_rfl
 m16 := by kernel_rfl
 m17 := by kernel_rfl
 m18 := by kernel_rfl
 m19 := by kernel_rfl
 c0 := by kernel_rfl
 c2 := by kernel_rfl
 c3 := by kernel_rfl
 c4 := by kernel_rfl
 c5 := by kernel_rfl
 c9 := by kernel_rfl
 c20 := by kernel_rfl
 c21 := by kernel_rfl
 c37 := by kernel_rfl
 c46 := by kernel_rfl
 c51 := by kernel_rfl
 c53 := by kernel_rfl
 c75 := by kernel_rfl
 c80 := by kernel_rfl
 c85 := by kernel_rfl
 c127 := by kernel_rfl
 c143 := by kernel_rfl
 c145 := by kernel_rfl
 c167 := by kernel_rfl
 c168 := by kernel_rfl
 c171 := by kernel_rfl
 c173 := by kernel_rfl
 c175 := by kernel_rfl
 c210 := by kernel_rfl
 c212 := by kernel_rfl
 c213 := by kernel_rfl
 c232 := by kernel_rfl
 c233 := by kernel_rfl }
open Go.RowKit in
theorem Tryz.strconv_ParseInt_10_at64_ok (s : ByteArray) (hmax : s.size ≤ 9223372036854775806) (v : Int) (h : Lib.parseIntB 64 s.data.toList = .ok v) (w : World) :
  Calls Tryz.prog 179 #[.string s, .int .i64 10, .int .i64 64] w fun e w' => e = .returned (.tuple #[.int .i64 v, .nilIface]) ∧ (w' = w ∨ ∃ t, w' = Lib.bytesWorld w 5 t) := Any.strconv_ParseInt_10_at64_ok Tryz.laysC174 s hmax v h w
def Tryz.lays143_ren : Go.Shelf.Ren := ⟨fun | 143 => 142 | 219 => 177 | 217 => 144 | 225 => 212 | 224 => 213 | 267 => 214 | 266 => 178 | 314 => 241 | n => n, fun | 9 => 9 | 3 => 3 | 4 => 4 | 5 => 5 | 46 => 49 | 146 => 370 | 51 => 115 | n => n, fun | 1 => 5 | n => n⟩
theorem Tryz.lays143 : Go.Proofs.Lays.n143 Tryz.prog Tryz.lays143_ren := {
 mixed := by kernel_rfl
 f143 := Tryz.func142.trans (congrArg some (by kernel_rfl))
 f217 := Tryz.func144.trans (congrArg some (by kernel_rfl))
 f219 := Tryz.func177.trans (congrArg some (by kernel_rfl))
 f224 := Tryz.func213.trans (congrArg some (by kernel_rfl))
 f225 := Tryz.func212.trans (congrArg some (by kernel_rfl))
 f266 := Tryz.func178.trans (congrArg some (by kernel_rfl))
 f267 := Tryz.func214.trans (congrArg some (by kernel_rfl))
 f314 := Tryz.func241.trans (congrArg some (by kernel_rfl))
 t3 := Tryz.underlying3
 a3 := Tryz.isAgg3
 z3 := Tryz.sizeOf3
 v3 := Tryz.zeroValue3
 t4 := Tryz.underlying4
 a4 := Tryz.isAgg4
 z4 := Tryz.sizeOf4
 v4 := Tryz.zeroValue4
 t5 := Tryz.underlying5
 a5 := Tryz.isAgg5
 z5 := Tryz.sizeOf5
 v5 := Tryz.zeroValue5
 t9 := Tryz.underlying9
 a9 := Tryz.isAgg9
 z9 := Tryz.sizeOf9
 v9 := Tryz.zeroValue9
 t46 := Tryz.underlying49
 a46 := Tryz.isAgg49
 z46 := Tryz.sizeOf49
 v46 := Tryz.zeroValue49
 t51 := Tryz.underlying115
 a51 := Tryz.isAgg115
 z51 := Tryz.sizeOf115
 v51 := Tryz.zeroValue115
 t146 := Tryz.underlying370
 a146 := Tryz.isAgg370
 z146 := Tryz.sizeOf370
 v146 := Tryz.zeroValue370
 g1 := by kernel_rfl }
open Go.RowKit Go.Lib in
theorem Tryz.strings_Index_one (s : ByteArray) (c : UInt8) (w : World) :
  Calls Tryz.prog 142 #[.string s, .string ⟨#[c]⟩] w fun e w' => e = .returned (.int .i64 (Lib.indexByte s.data.toList c)) ∧ w' = w := Any.strings_Index_one Tryz.lays143 s c w
def Tryz.lays264_ren : Go.Shelf.Ren := ⟨fun | 264 => 176 | n => n, fun | 53 => 22 | 46 => 49 | n => n, fun | n => n⟩
theorem Tryz.lays264 : Go.Proofs.Lays.n264 Tryz.prog Tryz.lays264_ren := {
 mixed := by kernel_rfl
 f264 := Tryz.func176.trans (congrArg some (by kernel_rfl))
 t46 := Tryz.underlying49
 a46 := Tryz.isAgg49
 z46 := Tryz.sizeOf49
 v46 := Tryz.zeroValue49
 t53 := Tryz.underlying22
 a53 := Tryz.isAgg22
 z53 := Tryz.sizeOf22
 v53 := Tryz.zeroValue22 }
open Go.RowKit Go.Lib in
theorem Tryz.bits_Mul64 (x y : Nat) (hx : x < 18446744073709551616) (hy : y < 18446744073709551616) (w : World) :
  Calls Tryz.prog 176 #[.int .u64 x, .int .u64 y] w fun e w' => e = .returned (.tuple #[.int .u64 ((x * y / 18446744073709551616 : Nat) : Int), .int .u64 ((x * y % 18446744073709551616 : Nat) : Int)]) ∧ w' = w := Any.bits_Mul64 Tryz.lays264 x y hx hy w
def Tryz.laysSlE041_f259_ren : Go.Shelf.Ren := ⟨fun | 41 => 259 | n => n, fun | 22 => 34 | 23 => 2 | 4 => 4 | n => n, fun | n => n⟩
theorem Tryz.laysSlE041_f259 : Go.Proofs.SlLaysE0.n41 Tryz.prog Tryz.laysSlE041_f259_ren := {
 mixed := by kernel_rfl
 f41 := ⟨Tryz.f259.name, by decide, Tryz.func259.trans (congrArg some (by kernel_rfl))⟩
 t4 := Tryz.underlying4
 a4 := Tryz.isAgg4
 z4 := Tryz.sizeOf4
 v4 := Tryz.zeroValue4
 t22 := Tryz.underlying34
 a22 := Tryz.isAgg34
 z22 := Tryz.sizeOf34
 v22 := Tryz.zeroValue34 }
open Go.RowKit Go.Lib in
theorem Tryz.slices_Clone (i0 : TypeInfo) (z : Value) (size bytes : Nat) (hi : Tryz.prog.info? 2 = some i0) (hz0 : i0.zero = some z) (hz1 : i0.size = size) (hz2 : i0.bytes = bytes) (hzs : z.cells.size = size) (hsz : 0 < size) (z23 : ∀ w, (Go.sizeOf 2).run Tryz.prog w = .ok size w) (b off n c : Nat) (news : List Value) (w : World) (hl : news.length = n * size) (hn : n ≤ maxLen) (hbig : n * bytes ≤ 140737488355328) (hc : ∀ j u, news[j]? = some u → w.cell? ⟨b, off + j, none⟩ = some u) (h1 : ∀ u ∈ news, u.oneCell' = true) :
  Calls Tryz.prog 259 #[.slice (some ⟨b, off, none⟩) n c] w fun e w' => ∃ v', e = .returned v' ∧ w'.ownsRow w.heap.size 2 size v' n news ∧ v' ≠ .slice none 0 0 ∧ Below w.heap.size w w' := AnyE.slices_Clone Tryz.laysSlE041_f259 i0 z size bytes hi hz0 hz1 hz2 hzs hsz z23 b off n c news w hl hn hbig hc h1
open Go.RowKit Go.Lib in
theorem Tryz.slices_Clone_nil (n c : Nat) (w : World) :
  Calls Tryz.prog 259 #[.slice none n c] w fun e w' => e = .returned (.slice none 0 0) ∧ w' = w := AnyE.slices_Clone_nil Tryz.laysSlE041_f259 n c w
end Go.Proofs

set_option maxRecDepth 100000
set_option maxHeartbeats 2000000
namespace Go.Proofs.YtbhppbeepmllaaaGreatDoor
open Go.RowKit

def bdKeep (b : Nat) (w w' : World) : Prop := ∀ k cs T fr, w.heap[k]? = some (.cells cs T fr) → T ≠ 5 → k ≠ b → w'.heap[k]? = some (.cells cs T fr)
theorem bdKeep.refl (b : Nat) (w : World) : bdKeep b w w := fun _ _ _ _ h _ _ => h
theorem bdKeep.trans {b : Nat} {a c d : World} (h : bdKeep b a c) (k : bdKeep b c d) : bdKeep b a d := fun i cs T fr h1 h2 h3 => k i cs T fr (h i cs T fr h1 h2 h3) h2 h3
theorem bdKeep.set (b o : Nat) (v : Value) (w : World) : bdKeep b w (w.setCell ⟨b, o, none⟩ v) := fun i cs T fr h _ h3 => (Below.heap_setCell _ _ _ _ (fun e => h3 e)).trans h
theorem bdKeep.alloc (b : Nat) (o : Obj) (w : World) : bdKeep b w (w.alloc o) := fun i cs T fr h _ _ => by
 have hl : i < w.heap.size := by
  rcases Nat.lt_or_ge i w.heap.size with h' | h'
  ·exact h'
  ·simp [Array.getElem?_eq_none h'] at h
 exact (Lib.alloc_old w o i hl).trans h
theorem bdKeep.grown {b : Nat} {w w' : World} {B : Nat} {v : Value} {n : Nat} {xs : List Value} (hg : w.grownBy w' v.ownBlock) (ho : w.ownsRow B 5 1 v n xs) : bdKeep b w w' := fun i cs T fr h h2 _ => by
 have hl : i < w.heap.size := by
  rcases Nat.lt_or_ge i w.heap.size with h' | h'
  ·exact h'
  ·simp [Array.getElem?_eq_none h'] at h
 exact (hg.block i hl (fun e => Lib.ownBlock_ne ho h h2 e.symm)).trans h
theorem bdSize : (Tryz.prog.info? 177).map (·.size) = some 2 := by kernel_rfl
theorem bdLies : liesAt Tryz.prog Tryz.prog.depth 177 (2 / Tryz.prog.cellsOf 177) 0 177 1 = true := by kernel_rfl
theorem bdByte : (Tryz.prog.info? 5).map (fun i => (i.zero, i.size, i.bytes)) = some (some (.int .u8 0), 1, 1) := by kernel_rfl
theorem bd_used (b : Nat) (w : World) (h0 : w.cell? ⟨b, 0, none⟩ = some (.pointer (some ⟨b, 0, none⟩))) :
  Calls Tryz.prog 131 #[.pointer (some ⟨b, 0, none⟩)] w fun e w' => e = .returned (.tuple #[]) ∧ w' = w := by
 obtain ⟨j, hj, _⟩ := Option.map_eq_some_iff.1 bdSize
 go_enter Tryz.func131, Tryz.ntmps131
 go_wp2
 rw [Lib.run_neq_ptr_same w _ Tryz.underlying175 hj]
 go_wp2
 go_end0
 exact ⟨rfl, rfl⟩
theorem bd_fresh (b : Nat) (w : World) (h0 : w.cell? ⟨b, 0, none⟩ = some (.pointer none)) (hsh : w.shape? b = some (177, 2)) (hfz : w.frozen? ⟨b, 0, none⟩ = false) :
  Calls Tryz.prog 131 #[.pointer (some ⟨b, 0, none⟩)] w fun e w' => e = .returned (.tuple #[]) ∧ w' = w.setCell ⟨b, 0, none⟩ (.pointer (some ⟨b, 0, none⟩)) := by
 obtain ⟨j, hj, hjs⟩ := Option.map_eq_some_iff.1 bdSize
 go_enter Tryz.func131, Tryz.ntmps131
 go_wp2
 rw [Lib.run_to_unsafe w ⟨b, 0, none⟩ Tryz.underlying175 Tryz.underlying295 hj (by rw [hjs]; decide) hsh (Nat.zero_lt_succ 1)]
 simp only [Result.andThen]
 rw [Oper.upon_value]
 go_wp2
 rw [run_callFunc_extern Tryz.func172 (by kernel_rfl) (by kernel_rfl) (by kernel_rfl) (e := Extern.AbiNoEscape.same) (by kernel_rfl)]
 rw [Lib.run_noEscape]
 simp only [Result.andThen]
 rw [Oper.upon_value]
 go_wp2
 rw [Lib.run_from_unsafe w ⟨b, 0, none⟩ Tryz.underlying295 Tryz.underlying175 hj hsh bdLies]
 simp only [Result.andThen]
 rw [Oper.upon_value]
 go_wp2
 go_end0
 exact ⟨rfl, rfl⟩
theorem bd_copy (B b : Nat) (bs : List Value) (w : World) (h : Lib.IsBuilder 177 5 B b bs w) :
  Calls Tryz.prog 131 #[.pointer (some ⟨b, 0, none⟩)] w fun e w' => e = .returned (.tuple #[]) ∧ (Lib.BuilderAt 177 5 B b (.pointer (some ⟨b, 0, none⟩)) bs w' ∧ Below B w w' ∧ bdKeep b w w') := by
 rcases h with h | h
 ·refine (bd_fresh b w h.cell0 h.shape h.frozen0).mono ?_
  rintro e w' ⟨rfl, rfl⟩
  exact ⟨rfl, h.used _, (Below.refl B w).setCell (p := ⟨b, 0, none⟩) h.1 _, bdKeep.set b 0 _ w⟩
 ·refine (bd_used b w h.cell0).mono ?_
  rintro e w' ⟨rfl, rfl⟩
  exact ⟨rfl, h, Below.refl B _, bdKeep.refl b _⟩
theorem bd_byte (B b : Nat) (bs : List Value) (c : Int) (w : World) (h : Lib.IsBuilder 177 5 B b bs w) (hlen : bs.length + 1 ≤ 140737488355328) (hBw : B ≤ w.heap.size) :
  Calls Tryz.prog 88 #[.pointer (some ⟨b, 0, none⟩), .int .u8 c] w fun e w' => e = .returned .nilIface ∧ (Lib.BuilderAt 177 5 B b (.pointer (some ⟨b, 0, none⟩)) (bs ++ [.int .u8 c]) w' ∧ Below B w w' ∧ bdKeep b w w') := by
 obtain ⟨i0, hi, hz0, hz1, hz2⟩ := info_parts bdByte
 go_enter Tryz.func88, Tryz.ntmps88
 go_wp2_with (go_at_call 131; refine (bd_copy B b bs _ h).mono ?_)
 rintro e w1 ⟨rfl, h1, hb1, hK1⟩
 have HK1 := Lib.hid hK1
 clear hK1
 obtain ⟨hB, v, hbk, hown, hne⟩ := h1
 have c0 : w1.cell? ⟨b, 0, none⟩ = some (.pointer (some ⟨b, 0, none⟩)) := by rw [Lib.cell_of_heap hbk]; rfl
 have c1 : w1.cell? ⟨b, 1, none⟩ = some v := by rw [Lib.cell_of_heap hbk]; rfl
 go_wp2_with (at_builtin; refine wpList_append_own _ rfl _ _ 45 rfl B 5 i0 (.int .u8 0) 1 1 Tryz.underlying45 hi hz0 hz1 hz2 rfl (by decide) _ _ _ rfl (hown.alloc _) ⟨w1.heap.size, 0, none⟩ 1 1 [.int .u8 c] rfl rfl ?c1 ?c2 ?c3 ?c4 ?c5 ?_)
 case c1 =>
  intro j u hj
  match j, hj with
  | 0, hj => simp at hj; subst hj; simp [Addr.add]
 case c2 => intro u hu; simp at hu; subst hu; rfl
 case c3 => unfold maxLen; omega
 case c4 => omega
 case c5 => have := hb1.size; simp; omega
 intro v' w2 hown' hgrow _
 have hlt : b < w1.heap.size := by
  rcases Nat.lt_or_ge b w1.heap.size with h' | h'
  ·exact h'
  ·simp [Array.getElem?_eq_none h'] at hbk
 have hb2 : w2.heap[b]? = some (.cells #[.pointer (some ⟨b, 0, none⟩), v] 177 (0, 0)) := by
  rw [hgrow.block b (by simp; omega) (fun e => hne e.symm), Lib.alloc_old w1 _ b hlt]
  exact hbk
 have d0 : w2.cell? ⟨b, 0, none⟩ = some (.pointer (some ⟨b, 0, none⟩)) := by rw [Lib.cell_of_heap hb2]; rfl
 have d1 : w2.cell? ⟨b, 1, none⟩ = some v := by rw [Lib.cell_of_heap hb2]; rfl
 have f1 : w2.frozen? ⟨b, 1, none⟩ = false := Lib.frozen_of_heap hb2 1
 obtain ⟨g, cap, rfl⟩ : ∃ g cap, v' = .slice (some ⟨g, 0, none⟩) (bs.length + 1) cap := by
  rcases hown'.2 with ⟨_, h0⟩ | ⟨g, cap, cur, hv, _⟩
  ·omega
  ·exact ⟨g, cap, hv⟩
 go_wp2
 go_ret
 refine ⟨rfl, ?_, ?_, ?_⟩
 ·exact Lib.BuilderAt.put (T := 177) (e := 5) hB hb2 (bs' := bs ++ [.int .u8 c]) (by simpa using hown') (by decide)
 ·exact ((hb1.alloc (by have := hb1.size; omega) _).grown hgrow (by have := hb1.size; simp; omega) (fun k hk => (hown.lt k hk).1)).setCell (p := ⟨b, 1, none⟩) hB _
 ·exact ((HK1.out.trans (bdKeep.alloc b _ w1)).trans (bdKeep.grown hgrow (hown.alloc _))).trans (bdKeep.set b 1 _ w2)
theorem bd_string (B b : Nat) (bs : List Value) (s : ByteArray) (w : World) (h : Lib.IsBuilder 177 5 B b bs w) (hlen : bs.length + s.size ≤ 140737488355328) (hBw : B ≤ w.heap.size) :
  Calls Tryz.prog 87 #[.pointer (some ⟨b, 0, none⟩), .string s] w fun e w' => e = .returned (.tuple #[.int .i64 s.size, .nilIface]) ∧ (Lib.BuilderAt 177 5 B b (.pointer (some ⟨b, 0, none⟩)) (bs ++ Lib.strCells s) w' ∧ Below B w w' ∧ bdKeep b w w') := by
 obtain ⟨i0, hi, hz0, hz1, hz2⟩ := info_parts bdByte
 go_enter Tryz.func87, Tryz.ntmps87
 go_wp2_with (go_at_call 131; refine (bd_copy B b bs _ h).mono ?_)
 rintro e w1 ⟨rfl, h1, hb1, hK1⟩
 have HK1 := Lib.hid hK1
 clear hK1
 obtain ⟨hB, v, hbk, hown, hne⟩ := h1
 have c0 : w1.cell? ⟨b, 0, none⟩ = some (.pointer (some ⟨b, 0, none⟩)) := by rw [Lib.cell_of_heap hbk]; rfl
 have c1 : w1.cell? ⟨b, 1, none⟩ = some v := by rw [Lib.cell_of_heap hbk]; rfl
 go_wp2_with (at_builtin; refine Lib.wpList_append_own_string _ rfl _ _ 45 9 rfl B 5 i0 Tryz.underlying45 Tryz.underlying9 hi hz0 hz1 hz2 _ _ _ rfl hown s rfl ?c3 ?c4 ?c5 ?_)
 case c3 => unfold maxLen; omega
 case c4 => omega
 case c5 => have := hb1.size; omega
 intro v' w2 hown' hgrow _
 have hlt : b < w1.heap.size := by
  rcases Nat.lt_or_ge b w1.heap.size with h' | h'
  ·exact h'
  ·simp [Array.getElem?_eq_none h'] at hbk
 have hb2 : w2.heap[b]? = some (.cells #[.pointer (some ⟨b, 0, none⟩), v] 177 (0, 0)) := by
  rw [hgrow.block b hlt (fun e => hne e.symm)]
  exact hbk
 have d0 : w2.cell? ⟨b, 0, none⟩ = some (.pointer (some ⟨b, 0, none⟩)) := by rw [Lib.cell_of_heap hb2]; rfl
 have d1 : w2.cell? ⟨b, 1, none⟩ = some v := by rw [Lib.cell_of_heap hb2]; rfl
 have f1 : w2.frozen? ⟨b, 1, none⟩ = false := Lib.frozen_of_heap hb2 1
 obtain ⟨ao, n', cap, rfl⟩ : ∃ ao n' cap, v' = .slice ao n' cap := by
  rcases hown'.2 with ⟨hv, _⟩ | ⟨g, cap, cur, hv, _⟩
  ·exact ⟨_, _, _, hv⟩
  ·exact ⟨_, _, _, hv⟩
 go_wp2
 go_ret2
 refine ⟨rfl, ?_, ?_, ?_⟩
 ·exact Lib.BuilderAt.put (T := 177) (e := 5) hB hb2 (bs' := bs ++ Lib.strCells s) (by simpa [Lib.strCells_length] using hown') (by decide)
 ·exact (hb1.grown hgrow (by have := hb1.size; omega) (fun k hk => (hown.lt k hk).1)).setCell (p := ⟨b, 1, none⟩) hB _
 ·exact (HK1.out.trans (bdKeep.grown hgrow hown)).trans (bdKeep.set b 1 _ w2)
end Go.Proofs.YtbhppbeepmllaaaGreatDoor
