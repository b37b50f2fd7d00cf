/- lemmalaw texts, part 1. -/
import Derived.Shelf.Small.Bits
import Derived.Shelf.Small.Wraps
import Derived.Shelf.Strconv.Itoa0
import Derived.Shelf.Strings.Search1
import Derived.Shelf.Strings.Search2
import Derived.Shelf.Strings.Search3
import Derived.Shelf.Strings.Count
import Derived.Shelf.LaysM
import Derived.Shelf.Strings.Shaped
import Derived.Shelf.Strings.LastIndex
import Derived.Shelf.Unicode.DecodeSlow
import Derived.Shelf.Slices.Turned
import Derived.Shelf.Slices.Reverse
import Derived.Shelf.Slices.Equal
import Derived.Ground.Names2Prog
import Derived.Shelf.Slices.Clone
import Derived.Shelf.Slices.SearchI
import Derived.Shelf.Slices.Cells
import Derived.Shelf.Slices.Empties
import Derived.Shelf.Slices.Empties2
import Derived.Test.YtbfbgfpghkijdaaGreatDoorProg
import Derived.Shelf.SlGeneric
import Derived.Shelf.SlSortCmp.NoneTotal
import Derived.Ground.SlsfProg
import Derived.Shelf.Spec.SlicesInsertGrow
import Derived.WalkKit
import Derived.WalkSpells
import Derived.WalkLawsBesides
import Derived.Maps.AppendAt
import Derived.Maps.Own
import Derived.Maps.OwnOps
import Derived.MapKept
import Derived.Deep.QuietTactic
import Derived.BigQuiet
import Derived.StillTailTactics
import Derived.Deep.RegionHeld3
import Derived.Deep.AppendLies
import Derived.Lib.Hide
set_option maxRecDepth 100000
set_option linter.unusedVariables false
set_option linter.unusedSimpArgs false
set_option maxHeartbeats 32000000
namespace Go.Proofs
open Go.Shelf
def Tryz.lays215_ren : Go.Shelf.Ren := ⟨fun | 215 => 189 | n => n, fun | 3 => 3 | 4 => 4 | n => n, fun | n => n⟩
def Tryz.lays122_ren : Go.Shelf.Ren := ⟨fun | 122 => 174 | 215 => 189 | n => n, fun | 3 => 3 | 4 => 4 | n => n, fun | n => n⟩
theorem Tryz.lays122 : Go.Proofs.Lays.n122 Tryz.prog Tryz.lays122_ren := {
 mixed := by kernel_rfl
 f122 := Tryz.func174.trans (congrArg some (by kernel_rfl))
 f215 := Tryz.func189.trans (congrArg some (by kernel_rfl))
 t3 := Tryz.underlying3
 a3 := Tryz.isAgg3
 z3 := Tryz.sizeOf3
 v3 := Tryz.zeroValue3
 t4 := Tryz.underlying4
 a4 := Tryz.isAgg4
 z4 := Tryz.sizeOf4
 v4 := Tryz.zeroValue4 }
open Go.RowKit in
theorem Tryz.cmp_Compare_int (x y : Int) (w : World) :
  Calls Tryz.prog 174 #[.int .i64 x, .int .i64 y] w fun e w' => e = .returned (.int .i64 (Lib.compareInt x y)) ∧ w' = w := Any.cmp_Compare_int Tryz.lays122 x y w
def Tryz.lays219_ren : Go.Shelf.Ren := ⟨fun | 219 => 157 | 217 => 177 | 225 => 178 | 224 => 179 | 267 => 180 | 266 => 194 | 314 => 195 | n => n, fun | 9 => 9 | 3 => 3 | 4 => 4 | 5 => 5 | 46 => 308 | 146 => 323 | 51 => 322 | n => n, fun | 1 => 0 | n => n⟩
def Tryz.lays144_ren : Go.Shelf.Ren := ⟨fun | 144 => 104 | 143 => 130 | 219 => 157 | 217 => 177 | 225 => 178 | 224 => 179 | 267 => 180 | 266 => 194 | 314 => 195 | n => n, fun | 9 => 9 | 4 => 4 | 3 => 3 | 5 => 5 | 46 => 308 | 146 => 323 | 51 => 322 | n => n, fun | 1 => 0 | n => n⟩
theorem Tryz.lays144 : Go.Proofs.Lays.n144 Tryz.prog Tryz.lays144_ren := {
 mixed := by kernel_rfl
 f143 := Tryz.func130.trans (congrArg some (by kernel_rfl))
 f144 := Tryz.func104.trans (congrArg some (by kernel_rfl))
 f217 := Tryz.func177.trans (congrArg some (by kernel_rfl))
 f219 := Tryz.func157.trans (congrArg some (by kernel_rfl))
 f224 := Tryz.func179.trans (congrArg some (by kernel_rfl))
 f225 := Tryz.func178.trans (congrArg some (by kernel_rfl))
 f266 := Tryz.func194.trans (congrArg some (by kernel_rfl))
 f267 := Tryz.func180.trans (congrArg some (by kernel_rfl))
 f314 := Tryz.func195.trans (congrArg some (by kernel_rfl))
 t3 := Tryz.underlying3
 a3 := Tryz.isAgg3
 z3 := Tryz.sizeOf3
 v3 := Tryz.zeroValue3
 t4 := Tryz.underlying4
 a4 := Tryz.isAgg4
 z4 := Tryz.sizeOf4
 v4 := Tryz.zeroValue4
 t5 := Tryz.underlying5
 a5 := Tryz.isAgg5
 z5 := Tryz.sizeOf5
 v5 := Tryz.zeroValue5
 t9 := Tryz.underlying9
 a9 := Tryz.isAgg9
 z9 := Tryz.sizeOf9
 v9 := Tryz.zeroValue9
 t46 := Tryz.underlying308
 a46 := Tryz.isAgg308
 z46 := Tryz.sizeOf308
 v46 := Tryz.zeroValue308
 t51 := Tryz.underlying322
 a51 := Tryz.isAgg322
 z51 := Tryz.sizeOf322
 v51 := Tryz.zeroValue322
 t146 := Tryz.underlying323
 a146 := Tryz.isAgg323
 z146 := Tryz.sizeOf323
 v146 := Tryz.zeroValue323
 g1 := by kernel_rfl }
open Go.RowKit Go.Lib in
theorem Tryz.strings_Contains (s sub : ByteArray) (m : Int) (w : World) (hs : s.size < 4294967281) (hm : w.cell? ⟨0, 0, none⟩ = some (.int .i64 m)) :
  Calls Tryz.prog 104 #[.string s, .string sub] w fun e w' => e = .returned (.bool (Lib.contains s.data.toList sub.data.toList)) ∧ w' = w := Any.strings_Contains Tryz.lays144 s sub m w hs hm
def Tryz.lays138_ren : Go.Shelf.Ren := ⟨fun | 138 => 76 | 195 => 128 | 218 => 129 | 143 => 130 | 219 => 157 | 217 => 177 | 225 => 178 | 224 => 179 | 267 => 180 | 266 => 194 | 314 => 195 | n => n, fun | 9 => 9 | 3 => 3 | 4 => 4 | 5 => 5 | 0 => 0 | 46 => 308 | 146 => 323 | 51 => 322 | n => n, fun | 1 => 0 | n => n⟩
theorem Tryz.lays138 : Go.Proofs.Lays.n138 Tryz.prog Tryz.lays138_ren := {
 mixed := by kernel_rfl
 f138 := Tryz.func76.trans (congrArg some (by kernel_rfl))
 f143 := Tryz.func130.trans (congrArg some (by kernel_rfl))
 f195 := Tryz.func128.trans (congrArg some (by kernel_rfl))
 f217 := Tryz.func177.trans (congrArg some (by kernel_rfl))
 f218 := Tryz.func129.trans (congrArg some (by kernel_rfl))
 f219 := Tryz.func157.trans (congrArg some (by kernel_rfl))
 f224 := Tryz.func179.trans (congrArg some (by kernel_rfl))
 f225 := Tryz.func178.trans (congrArg some (by kernel_rfl))
 f266 := Tryz.func194.trans (congrArg some (by kernel_rfl))
 f267 := Tryz.func180.trans (congrArg some (by kernel_rfl))
 f314 := Tryz.func195.trans (congrArg some (by kernel_rfl))
 t0 := Tryz.underlying0
 a0 := Tryz.isAgg0
 z0 := Tryz.sizeOf0
 v0 := Tryz.zeroValue0
 t3 := Tryz.underlying3
 a3 := Tryz.isAgg3
 z3 := Tryz.sizeOf3
 v3 := Tryz.zeroValue3
 t4 := Tryz.underlying4
 a4 := Tryz.isAgg4
 z4 := Tryz.sizeOf4
 v4 := Tryz.zeroValue4
 t5 := Tryz.underlying5
 a5 := Tryz.isAgg5
 z5 := Tryz.sizeOf5
 v5 := Tryz.zeroValue5
 t9 := Tryz.underlying9
 a9 := Tryz.isAgg9
 z9 := Tryz.sizeOf9
 v9 := Tryz.zeroValue9
 t46 := Tryz.underlying308
 a46 := Tryz.isAgg308
 z46 := Tryz.sizeOf308
 v46 := Tryz.zeroValue308
 t51 := Tryz.underlying322
 a51 := Tryz.isAgg322
 z51 := Tryz.sizeOf322
 v51 := Tryz.zeroValue322
 t146 := Tryz.underlying323
 a146 := Tryz.isAgg323
 z146 := Tryz.sizeOf323
 v146 := Tryz.zeroValue323
 g1 := by kernel_rfl }
open Go.RowKit Go.Lib in
theorem Tryz.strings_Count_one (s : ByteArray) (c : UInt8) (w : World) :
  Calls Tryz.prog 76 #[.string s, .string ⟨#[c]⟩] w fun e w' => e = .returned (.int .i64 (Lib.countByte s.data.toList c)) ∧ w' = w := Any.strings_Count_one Tryz.lays138 s c w
def Tryz.lays222_ren : Go.Shelf.Ren := ⟨fun | 222 => 131 | n => n, fun | 9 => 9 | 5 => 5 | 3 => 3 | 4 => 4 | n => n, fun | n => n⟩
def Tryz.lays149_ren : Go.Shelf.Ren := ⟨fun | 149 => 77 | 222 => 131 | n => n, fun | 9 => 9 | 5 => 5 | 3 => 3 | 4 => 4 | n => n, fun | n => n⟩
theorem Tryz.lays149 : Go.Proofs.Lays.n149 Tryz.prog Tryz.lays149_ren := {
 mixed := by kernel_rfl
 f149 := Tryz.func77.trans (congrArg some (by kernel_rfl))
 f222 := Tryz.func131.trans (congrArg some (by kernel_rfl))
 t3 := Tryz.underlying3
 a3 := Tryz.isAgg3
 z3 := Tryz.sizeOf3
 v3 := Tryz.zeroValue3
 t4 := Tryz.underlying4
 a4 := Tryz.isAgg4
 z4 := Tryz.sizeOf4
 v4 := Tryz.zeroValue4
 t5 := Tryz.underlying5
 a5 := Tryz.isAgg5
 z5 := Tryz.sizeOf5
 v5 := Tryz.zeroValue5
 t9 := Tryz.underlying9
 a9 := Tryz.isAgg9
 z9 := Tryz.sizeOf9
 v9 := Tryz.zeroValue9 }
open Go.RowKit Go.Lib in
theorem Tryz.strings_LastIndexByte (s : ByteArray) (c : Int) (hs : s.size < 4611686018427387904) (w : World) :
  Calls Tryz.prog 77 #[.string s, .int .u8 c] w fun e w' => e = .returned (.int .i64 (Lib.lastIndexByte s c)) ∧ w' = w := Any.strings_LastIndexByte Tryz.lays149 s c hs w
def Tryz.lays107_ren : Go.Shelf.Ren := ⟨fun | 107 => 53 | 108 => 101 | n => n, fun | 28 => 24 | 3 => 3 | 4 => 4 | 0 => 0 | n => n, fun | n => n⟩
theorem Tryz.lays107 : Go.Proofs.Lays.n107 Tryz.prog Tryz.lays107_ren := {
 mixed := by kernel_rfl
 f107 := Tryz.func53.trans (congrArg some (by kernel_rfl))
 f108 := Tryz.func101.trans (congrArg some (by kernel_rfl))
 t0 := Tryz.underlying0
 a0 := Tryz.isAgg0
 z0 := Tryz.sizeOf0
 v0 := Tryz.zeroValue0
 t3 := Tryz.underlying3
 a3 := Tryz.isAgg3
 z3 := Tryz.sizeOf3
 v3 := Tryz.zeroValue3
 t4 := Tryz.underlying4
 a4 := Tryz.isAgg4
 z4 := Tryz.sizeOf4
 v4 := Tryz.zeroValue4
 t28 := Tryz.underlying24
 a28 := Tryz.isAgg24
 z28 := Tryz.sizeOf24
 v28 := Tryz.zeroValue24 }
open Go.Lib in
theorem Tryz.slices_Contains_int (b off n c : Nat) (zs : List Int) (x : Int) (w : World) (hz : n ≤ zs.length) (hbig : n ≤ 9223372036854775807) (hc : ∀ j, j < zs.length → w.cell? ⟨b, off + j, none⟩ = some (.int .i64 (zs.getD j 0))) :
  Calls Tryz.prog 53 #[.slice (some ⟨b, off, none⟩) n c, .int .i64 x] w fun e w' => e = .returned (.bool ((zs.take n).contains x)) ∧ w' = w := Any.slices_Contains_int Tryz.lays107 b off n c zs x w hz hbig hc
open Go.Lib in
theorem Tryz.slices_Contains_int_empty (a : Option Addr) (c : Nat) (x : Int) (w : World) :
  Calls Tryz.prog 53 #[.slice a 0 c, .int .i64 x] w fun e w' => e = .returned (.bool false) ∧ w' = w := Any.slices_Contains_int_empty Tryz.lays107 a c x w
def Tryz.laysNm225_ren : Go.Shelf.Ren := ⟨fun | 25 => 175 | 31 => 190 | 32 => 191 | 37 => 189 | n => n, fun | 22 => 24 | 3 => 3 | 4 => 4 | 40 => 308 | 0 => 0 | n => n, fun | n => n⟩
theorem Tryz.laysNm225 : Go.Proofs.Lays2.n25 Tryz.prog Tryz.laysNm225_ren := {
 mixed := by kernel_rfl
 f25 := Tryz.func175.trans (congrArg some (by kernel_rfl))
 f31 := Tryz.func190.trans (congrArg some (by kernel_rfl))
 f32 := Tryz.func191.trans (congrArg some (by kernel_rfl))
 f37 := Tryz.func189.trans (congrArg some (by kernel_rfl))
 t0 := Tryz.underlying0
 a0 := Tryz.isAgg0
 z0 := Tryz.sizeOf0
 v0 := Tryz.zeroValue0
 t3 := Tryz.underlying3
 a3 := Tryz.isAgg3
 z3 := Tryz.sizeOf3
 v3 := Tryz.zeroValue3
 t4 := Tryz.underlying4
 a4 := Tryz.isAgg4
 z4 := Tryz.sizeOf4
 v4 := Tryz.zeroValue4
 t22 := Tryz.underlying24
 a22 := Tryz.isAgg24
 z22 := Tryz.sizeOf24
 v22 := Tryz.zeroValue24
 t40 := Tryz.underlying308
 a40 := Tryz.isAgg308
 z40 := Tryz.sizeOf308
 v40 := Tryz.zeroValue308 }
open Go.RowKit Go.Lib in
theorem Tryz.slices_BinarySearch_int (b off n c : Nat) (zs : List Int) (x : Int) (w : World) (hz : n ≤ zs.length) (hbig : n < 4611686018427387904) (hc : ∀ j, j < zs.length → w.cell? ⟨b, off + j, none⟩ = some (.int .i64 (zs.getD j 0))) (hs : (zs.take n).Pairwise (· ≤ ·)) :
  Calls Tryz.prog 175 #[.slice (some ⟨b, off, none⟩) n c, .int .i64 x] w fun e w' => e = .returned (.tuple #[.int .i64 ((zs.take n).countP (· < x) : Nat), .bool ((zs.take n).contains x)]) ∧ ∃ q, w' = w.drewN q := Any.slices_BinarySearch_int Tryz.laysNm225 b off n c zs x w hz hbig hc hs
open Go.RowKit Go.Lib in
theorem Tryz.slices_BinarySearch_int_empty (a : Option Addr) (c : Nat) (x : Int) (w : World) :
  Calls Tryz.prog 175 #[.slice a 0 c, .int .i64 x] w fun e w' => e = .returned (.tuple #[.int .i64 0, .bool false]) ∧ w' = w := Any.slices_BinarySearch_int_empty Tryz.laysNm225 a c x w
end Go.Proofs
namespace Go.Proofs
open Go.Shelf
def Tryz.sortPr_ren : Go.Shelf.Ren := ⟨fun | 6 => 187 | 15 => 197 | 14 => 199 | 28 => 209 | 29 => 210 | 20 => 211 | 21 => 212 | 22 => 213 | 23 => 214 | 24 => 215 | 25 => 216 | 26 => 217 | 27 => 218 | 46 => 225 | 47 => 221 | 48 => 222 | 49 => 226 | 50 => 227 | 57 => 229 | n => n, fun | 22 => 33 | 24 => 47 | 25 => 303 | 3 => 3 | 39 => 308 | 0 => 0 | 53 => 322 | 55 => 338 | 4 => 4 | 46 => 331 | 45 => 330 | 50 => 74 | 5 => 5 | 9 => 9 | 66 => 344 | 70 => 348 | 76 => 352 | 77 => 353 | n => n, fun | n => n⟩
theorem Tryz.sortPr : Go.Proofs.SlLaysF0.n6 Tryz.prog Tryz.sortPr_ren := {
 mixed := by kernel_rfl
 f6 := ⟨Tryz.f187.name, by decide, Tryz.func187.trans (congrArg some (by kernel_rfl))⟩
 f14 := ⟨Tryz.f199.name, by decide, Tryz.func199.trans (congrArg some (by kernel_rfl))⟩
 f15 := Tryz.func197.trans (congrArg some (by kernel_rfl))
 f20 := ⟨Tryz.f211.name, by decide, Tryz.func211.trans (congrArg some (by kernel_rfl))⟩
 f21 := ⟨Tryz.f212.name, by decide, Tryz.func212.trans (congrArg some (by kernel_rfl))⟩
 f22 := ⟨Tryz.f213.name, by decide, Tryz.func213.trans (congrArg some (by kernel_rfl))⟩
 f23 := ⟨Tryz.f214.name, by decide, Tryz.func214.trans (congrArg some (by kernel_rfl))⟩
 f24 := ⟨Tryz.f215.name, by decide, Tryz.func215.trans (congrArg some (by kernel_rfl))⟩
 f25 := ⟨Tryz.f216.name, by decide, Tryz.func216.trans (congrArg some (by kernel_rfl))⟩
 f26 := ⟨Tryz.f217.name, by decide, Tryz.func217.trans (congrArg some (by kernel_rfl))⟩
 f27 := ⟨Tryz.f218.name, by decide, Tryz.func218.trans (congrArg some (by kernel_rfl))⟩
 f28 := Tryz.func209.trans (congrArg some (by kernel_rfl))
 f29 := Tryz.func210.trans (congrArg some (by kernel_rfl))
 f46 := ⟨Tryz.f225.name, by decide, Tryz.func225.trans (congrArg some (by kernel_rfl))⟩
 f47 := Tryz.func221.trans (congrArg some (by kernel_rfl))
 f48 := Tryz.func222.trans (congrArg some (by kernel_rfl))
 f49 := ⟨Tryz.f226.name, by decide, Tryz.func226.trans (congrArg some (by kernel_rfl))⟩
 f50 := ⟨Tryz.f227.name, by decide, Tryz.func227.trans (congrArg some (by kernel_rfl))⟩
 f57 := ⟨Tryz.f229.name, by decide, Tryz.func229.trans (congrArg some (by kernel_rfl))⟩
 t0 := Tryz.underlying0
 a0 := Tryz.isAgg0
 z0 := Tryz.sizeOf0
 v0 := Tryz.zeroValue0
 t3 := Tryz.underlying3
 a3 := Tryz.isAgg3
 z3 := Tryz.sizeOf3
 v3 := Tryz.zeroValue3
 t4 := Tryz.underlying4
 a4 := Tryz.isAgg4
 z4 := Tryz.sizeOf4
 v4 := Tryz.zeroValue4
 t5 := Tryz.underlying5
 a5 := Tryz.isAgg5
 z5 := Tryz.sizeOf5
 v5 := Tryz.zeroValue5
 t9 := Tryz.underlying9
 a9 := Tryz.isAgg9
 z9 := Tryz.sizeOf9
 v9 := Tryz.zeroValue9
 t22 := Tryz.underlying33
 a22 := Tryz.isAgg33
 z22 := Tryz.sizeOf33
 v22 := Tryz.zeroValue33
 t25 := Tryz.underlying303
 a25 := Tryz.isAgg303
 z25 := Tryz.sizeOf303
 v25 := Tryz.zeroValue303
 t39 := Tryz.underlying308
 a39 := Tryz.isAgg308
 z39 := Tryz.sizeOf308
 v39 := Tryz.zeroValue308
 t45 := Tryz.underlying330
 a45 := Tryz.isAgg330
 z45 := Tryz.sizeOf330
 v45 := Tryz.zeroValue330
 t46 := Tryz.underlying331
 a46 := Tryz.isAgg331
 z46 := Tryz.sizeOf331
 v46 := Tryz.zeroValue331
 t50 := Tryz.underlying74
 a50 := Tryz.isAgg74
 z50 := Tryz.sizeOf74
 v50 := Tryz.zeroValue74
 t53 := Tryz.underlying322
 a53 := Tryz.isAgg322
 z53 := Tryz.sizeOf322
 v53 := Tryz.zeroValue322
 t55 := Tryz.underlying338
 a55 := Tryz.isAgg338
 z55 := Tryz.sizeOf338
 v55 := Tryz.zeroValue338
 t66 := Tryz.underlying344
 a66 := Tryz.isAgg344
 z66 := Tryz.sizeOf344
 v66 := Tryz.zeroValue344
 t70 := Tryz.underlying348
 a70 := Tryz.isAgg348
 z70 := Tryz.sizeOf348
 v70 := Tryz.zeroValue348
 t76 := Tryz.underlying352
 a76 := Tryz.isAgg352
 z76 := Tryz.sizeOf352
 v76 := Tryz.zeroValue352
 t77 := Tryz.underlying353
 a77 := Tryz.isAgg353
 z77 := Tryz.sizeOf353
 v77 := Tryz.zeroValue353 }
def Tryz.insertL_ren : Go.Shelf.Ren := ⟨fun | 21 => 176 | 27 => 192 | 28 => 193 | 35 => 200 | 39 => 219 | n => n, fun | 22 => 24 | 3 => 3 | 4 => 4 | 0 => 0 | n => n, fun | n => n⟩
theorem Tryz.insertL : Go.Proofs.Lays2.n21 Tryz.prog Tryz.insertL_ren := {
 mixed := by kernel_rfl
 f21 := Tryz.func176.trans (congrArg some (by kernel_rfl))
 f27 := Tryz.func192.trans (congrArg some (by kernel_rfl))
 f28 := Tryz.func193.trans (congrArg some (by kernel_rfl))
 f35 := Tryz.func200.trans (congrArg some (by kernel_rfl))
 f39 := Tryz.func219.trans (congrArg some (by kernel_rfl))
 t0 := Tryz.underlying0
 a0 := Tryz.isAgg0
 z0 := Tryz.sizeOf0
 v0 := Tryz.zeroValue0
 t3 := Tryz.underlying3
 a3 := Tryz.isAgg3
 z3 := Tryz.sizeOf3
 v3 := Tryz.zeroValue3
 t4 := Tryz.underlying4
 a4 := Tryz.isAgg4
 z4 := Tryz.sizeOf4
 v4 := Tryz.zeroValue4
 t22 := Tryz.underlying24
 a22 := Tryz.isAgg24
 z22 := Tryz.sizeOf24
 v22 := Tryz.zeroValue24
 i3 := by kernel_rfl }
end Go.Proofs
namespace Go.Proofs
open Go.Shelf
def Tryz.sortBn_ren : Go.Shelf.Ren := ⟨fun | 6 => 181 | 15 => 197 | 14 => 196 | 28 => 209 | 29 => 210 | 20 => 201 | 21 => 202 | 22 => 203 | 23 => 204 | 24 => 205 | 25 => 206 | 26 => 207 | 27 => 208 | 46 => 220 | 47 => 221 | 48 => 222 | 49 => 223 | 50 => 224 | 57 => 228 | n => n, fun | 22 => 260 | 24 => 291 | 25 => 314 | 3 => 3 | 39 => 308 | 0 => 0 | 53 => 322 | 55 => 338 | 4 => 4 | 46 => 331 | 45 => 330 | 50 => 74 | 5 => 5 | 9 => 9 | 66 => 344 | 70 => 348 | 76 => 352 | 77 => 353 | n => n, fun | n => n⟩
theorem Tryz.sortBn : Go.Proofs.SlLaysF0.n6 Tryz.prog Tryz.sortBn_ren := {
 mixed := by kernel_rfl
 f6 := ⟨Tryz.f181.name, by decide, Tryz.func181.trans (congrArg some (by kernel_rfl))⟩
 f14 := ⟨Tryz.f196.name, by decide, Tryz.func196.trans (congrArg some (by kernel_rfl))⟩
 f15 := Tryz.func197.trans (congrArg some (by kernel_rfl))
 f20 := ⟨Tryz.f201.name, by decide, Tryz.func201.trans (congrArg some (by kernel_rfl))⟩
 f21 := ⟨Tryz.f202.name, by decide, Tryz.func202.trans (congrArg some (by kernel_rfl))⟩
 f22 := ⟨Tryz.f203.name, by decide, Tryz.func203.trans (congrArg some (by kernel_rfl))⟩
 f23 := ⟨Tryz.f204.name, by decide, Tryz.func204.trans (congrArg some (by kernel_rfl))⟩
 f24 := ⟨Tryz.f205.name, by decide, Tryz.func205.trans (congrArg some (by kernel_rfl))⟩
 f25 := ⟨Tryz.f206.name, by decide, Tryz.func206.trans (congrArg some (by kernel_rfl))⟩
 f26 := ⟨Tryz.f207.name, by decide, Tryz.func207.trans (congrArg some (by kernel_rfl))⟩
 f27 := ⟨Tryz.f208.name, by decide, Tryz.func208.trans (congrArg some (by kernel_rfl))⟩
 f28 := Tryz.func209.trans (congrArg some (by kernel_rfl))
 f29 := Tryz.func210.trans (congrArg some (by kernel_rfl))
 f46 := ⟨Tryz.f220.name, by decide, Tryz.func220.trans (congrArg some (by kernel_rfl))⟩
 f47 := Tryz.func221.trans (congrArg some (by kernel_rfl))
 f48 := Tryz.func222.trans (congrArg some (by kernel_rfl))
 f49 := ⟨Tryz.f223.name, by decide, Tryz.func223.trans (congrArg some (by kernel_rfl))⟩
 f50 := ⟨Tryz.f224.name, by decide, Tryz.func224.trans (congrArg some (by kernel_rfl))⟩
 f57 := ⟨Tryz.f228.name, by decide, Tryz.func228.trans (congrArg some (by kernel_rfl))⟩
 t0 := Tryz.underlying0
 a0 := Tryz.isAgg0
 z0 := Tryz.sizeOf0
 v0 := Tryz.zeroValue0
 t3 := Tryz.underlying3
 a3 := Tryz.isAgg3
 z3 := Tryz.sizeOf3
 v3 := Tryz.zeroValue3
 t4 := Tryz.underlying4
 a4 := Tryz.isAgg4
 z4 := Tryz.sizeOf4
 v4 := Tryz.zeroValue4
 t5 := Tryz.underlying5
 a5 := Tryz.isAgg5
 z5 := Tryz.sizeOf5
 v5 := Tryz.zeroValue5
 t9 := Tryz.underlying9
 a9 := Tryz.isAgg9
 z9 := Tryz.sizeOf9
 v9 := Tryz.zeroValue9
 t22 := Tryz.underlying260
 a22 := Tryz.isAgg260
 z22 := Tryz.sizeOf260
 v22 := Tryz.zeroValue260
 t25 := Tryz.underlying314
 a25 := Tryz.isAgg314
 z25 := Tryz.sizeOf314
 v25 := Tryz.zeroValue314
 t39 := Tryz.underlying308
 a39 := Tryz.isAgg308
 z39 := Tryz.sizeOf308
 v39 := Tryz.zeroValue308
 t45 := Tryz.underlying330
 a45 := Tryz.isAgg330
 z45 := Tryz.sizeOf330
 v45 := Tryz.zeroValue330
 t46 := Tryz.underlying331
 a46 := Tryz.isAgg331
 z46 := Tryz.sizeOf331
 v46 := Tryz.zeroValue331
 t50 := Tryz.underlying74
 a50 := Tryz.isAgg74
 z50 := Tryz.sizeOf74
 v50 := Tryz.zeroValue74
 t53 := Tryz.underlying322
 a53 := Tryz.isAgg322
 z53 := Tryz.sizeOf322
 v53 := Tryz.zeroValue322
 t55 := Tryz.underlying338
 a55 := Tryz.isAgg338
 z55 := Tryz.sizeOf338
 v55 := Tryz.zeroValue338
 t66 := Tryz.underlying344
 a66 := Tryz.isAgg344
 z66 := Tryz.sizeOf344
 v66 := Tryz.zeroValue344
 t70 := Tryz.underlying348
 a70 := Tryz.isAgg348
 z70 := Tryz.sizeOf348
 v70 := Tryz.zeroValue348
 t76 := Tryz.underlying352
 a76 := Tryz.isAgg352
 z76 := Tryz.sizeOf352
 v76 := Tryz.zeroValue352
 t77 := Tryz.underlying353
 a77 := Tryz.isAgg353
 z77 := Tryz.sizeOf353
 v77 := Tryz.zeroValue353 }
end Go.Proofs
namespace Go.Proofs.YtbfbgfpghkijdaaGreatDoor
open Go.RowKit
theorem Kd {p : Prop} (h : p) : Hid p := h
structure Ad (S : List Nat) (w w' : World) : Prop where
 os : w'.os = w.os
 tape : w'.tape = w.tape
 output : w'.output = w.output
 size : w.heap.size ≤ w'.heap.size
 block : ∀ b, b < w.heap.size → b ∉ S → w'.heap[b]? = w.heap[b]?
theorem Ad.refl (S : List Nat) (w : World) : Ad S w w := ⟨rfl, rfl, rfl, Nat.le_refl _, fun _ _ _ => rfl⟩
theorem Ad.trans {S : List Nat} {a b c : World} (h : Ad S a b) (k : Ad S b c) : Ad S a c :=
 ⟨k.os.trans h.os, k.tape.trans h.tape, k.output.trans h.output, Nat.le_trans h.size k.size, fun i hi hn => (k.block i (Nat.lt_of_lt_of_le hi h.size) hn).trans (h.block i hi hn)⟩
theorem Ad.then {S T : List Nat} {a b c : World} (h : Ad S a b) (k : Ad T b c) (hT : ∀ x ∈ T, x ∈ S ∨ a.heap.size ≤ x) : Ad S a c :=
 ⟨k.os.trans h.os, k.tape.trans h.tape, k.output.trans h.output, Nat.le_trans h.size k.size, fun i hi hn => (k.block i (Nat.lt_of_lt_of_le hi h.size) (fun hm => by
  rcases hT i hm with h1 | h1
  ·exact hn h1
  ·omega)).trans (h.block i hi hn)⟩
theorem Ad.mono {S T : List Nat} {a b : World} (h : Ad S a b) (hS : ∀ x ∈ S, x ∈ T ∨ a.heap.size ≤ x) : Ad T a b :=
 ⟨h.os, h.tape, h.output, h.size, fun i hi hn => h.block i hi (fun hm => by
  rcases hS i hm with h1 | h1
  ·exact hn h1
  ·omega)⟩
theorem Ad.below {w w' : World} (h : Ad [] w w') : Below w.heap.size w w' := ⟨h.os, h.tape, h.output, h.size, fun k hk => h.block k hk (by simp)⟩
theorem Ad.of_below {S : List Nat} {w w' : World} (h : Below w.heap.size w w') : Ad S w w' := ⟨h.os, h.tape, h.output, h.size, fun k hk _ => h.block k hk⟩
theorem Ad.of_grown {w w' : World} {g : Option Nat} (h : w.grownBy w' g) : Ad g.toList w w' :=
 ⟨h.os, h.tape, h.output, h.size, fun k hk hn => h.block k hk (fun e => hn (by rw [← e]; simp))⟩
theorem Ad.alloc (S : List Nat) (w : World) (o : Obj) : Ad S w (w.alloc o) := Ad.of_below ((Below.refl _ _).alloc (Nat.le_refl _) o)
theorem Ad.drew (S : List Nat) (w : World) : Ad S w w.drew := ⟨rfl, rfl, rfl, Nat.le_refl _, fun _ _ _ => rfl⟩
theorem Ad.setCell (w : World) (a : Addr) (v : Value) {S : List Nat} (h : a.block ∈ S) : Ad S w (w.setCell a v) :=
 ⟨rfl, rfl, rfl, by simp [World.setCell], fun b _ hn => by
  have : b ≠ a.block := fun e => hn (e ▸ h)
  simp [World.setCell, Array.getElem?_modify, Ne.symm this]⟩
theorem Ad.get {S : List Nat} {w w' : World} (h : Ad S w w') {b : Nat} {o : Obj} (hb : w.heap[b]? = some o) (hn : b ∉ S) : w'.heap[b]? = some o :=
 (h.block b (Array.getElem?_eq_some_iff.1 hb).1 hn).trans hb
theorem Af {w : World} {b : Nat} {o : Obj} (hb : w.heap[b]? = some o) : b < w.heap.size := (Array.getElem?_eq_some_iff.1 hb).1
theorem Ad.cell {S : List Nat} {w w' : World} (h : Ad S w w') {b o : Nat} {v : Value} (hc : w.cell? ⟨b, o, none⟩ = some v) (hn : b ∉ S) : w'.cell? ⟨b, o, none⟩ = some v :=
 (World.cell?_of_block (h.block b (World.block_lt_of_cell? w ⟨b, o, none⟩ hc) hn)).trans hc
theorem Cc {w : World} {b : Nat} {cs : Array Value} {t : TypeId} {fr : Nat × Nat} (h : w.heap[b]? = some (.cells cs t fr)) (i : Nat) : w.cell? ⟨b, i, none⟩ = cs[i]? := by simp [World.cell?, h]
theorem AE {w : World} {b : Nat} {cs : Array Value} {t : TypeId} (h : w.heap[b]? = some (.cells cs t (0, 0))) (i : Nat) : w.frozen? ⟨b, i, none⟩ = false := by simp [World.frozen?, h]
theorem AI {w : World} {b : Nat} {cs : Array Value} {t : TypeId} {fr : Nat × Nat} (h : w.heap[b]? = some (.cells cs t fr)) (i : Nat) (v : Value) :
  (w.setCell ⟨b, i, none⟩ v).heap[b]? = some (.cells (cs.setIfInBounds i v) t fr) := by
 simp [World.setCell, Array.getElem?_modify, h]
theorem AG {w : World} {b : Nat} (a : Addr) (v : Value) (h : b ≠ a.block) : (w.setCell a v).heap[b]? = w.heap[b]? := by
 simp [World.setCell, Array.getElem?_modify, Ne.symm h]
theorem Aj (w : World) (o : Obj) : (w.alloc o).heap[w.heap.size]? = some o := by show (w.heap.push o)[w.heap.size]? = some o; simp
theorem AR {w : World} {b : Nat} {x : Obj} (h : w.heap[b]? = some x) (o : Obj) : (w.alloc o).heap[b]? = some x := by
 have := Af h
 show (w.heap.push o)[b]? = some x
 rw [Array.getElem?_push, if_neg (by omega)]
 exact h
def AV (i : Nat) (v : Value) : Obj → Obj
 | .cells c e f => .cells (c.setIfInBounds i v) e f
 | o => o
theorem Az (w : World) (b i : Nat) (v : Value) (b' : Nat) : (w.setCell ⟨b, i, none⟩ v).heap[b']? = if b' = b then (w.heap[b]?).map (AV i v) else w.heap[b']? := by
 by_cases h : b' = b
 ·subst h
  rw [if_pos rfl]
  simp only [World.setCell, Array.getElem?_modify, if_true]
  cases w.heap[b']? with
  | none => rfl
  | some o => cases o <;> simp [AV]
 ·rw [if_neg h]
  exact AG _ _ h
theorem Ad.set {S : List Nat} {w w' : World} (h : Ad S w w') (a : Addr) (v : Value) (ha : a.block ∈ S) : Ad S w (w'.setCell a v) := h.trans (Ad.setCell _ _ _ ha)
structure Ps where
 off : Nat
 line : Nat
 col : Nat
 deriving DecidableEq, Inhabited
structure Tk where
 text : ByteArray
 at_ : Ps
 deriving DecidableEq
def Ps.cells (p : Ps) : List Value := [.int .i64 p.off, .int .i64 p.line, .int .i64 p.col]
def Tk.cells (t : Tk) : List Value := .string t.text :: t.at_.cells
def Tk.none : Tk := ⟨⟨#[]⟩, ⟨0, 0, 0⟩⟩
def AJ {α β : Type} [DecidableEq α] (k : α) : List (α × β) → Option β
 | [] => none
 | (k', v) :: r => if k = k' then some v else AJ k r
def Bd {α β : Type} [DecidableEq α] (k : α) (v : β) : List (α × β) → List (α × β)
 | [] => [(k, v)]
 | (k', v') :: r => if k = k' then (k', v) :: r else (k', v') :: Bd k v r
def Fb {α β : Type} [DecidableEq α] (k : α) : List (α × β) → List (α × β)
 | [] => []
 | (k', v') :: r => if k = k' then r else (k', v') :: Fb k r
def BN (w : World) (b : Nat) (l : List (ByteArray × Value)) : Prop :=
 ∃ es clock, w.heap[b]? = some (.map es clock) ∧ es.toList.map (fun e => (e.key, e.val)) = l.map (fun p => (Value.string p.1, p.2))
theorem BN.lt {w : World} {b : Nat} {l : List (ByteArray × Value)} (h : BN w b l) : b < w.heap.size := by
 obtain ⟨_, _, h, _⟩ := h; exact Af h
theorem BN.same {S : List Nat} {w w' : World} {b : Nat} {l : List (ByteArray × Value)} (h : BN w b l) (hs : Ad S w w') (hn : b ∉ S) : BN w' b l := by
 obtain ⟨es, clock, h, e⟩ := h; exact ⟨es, clock, hs.get h hn, e⟩
theorem BN.ne_cells {w : World} {b c : Nat} {l : List (ByteArray × Value)} {cs : Array Value} {t : TypeId} {fr : Nat × Nat} (h : BN w b l) (hc : w.heap[c]? = some (.cells cs t fr)) : b ≠ c := by
 rintro rfl
 obtain ⟨es, clock, h, _⟩ := h
 rw [h] at hc
 cases hc
theorem JS (k : ByteArray) : (k == k) = true := (MapKept.bytes_beq k k).2 rfl
theorem Lq {k k' : ByteArray} (h : k ≠ k') : (k == k') = false := by
 cases hb : (k == k') with
 | false => rfl
 | true => exact absurd ((MapKept.bytes_beq k k').1 hb) h
theorem Eu (k : ByteArray) : ∀ (es : List MapEntry) (l : List (ByteArray × Value)) (i : Nat), es.map (fun e => (e.key, e.val)) = l.map (fun p => (Value.string p.1, p.2)) →
  (AJ k l = none ∧ Instr.findNow .string (.string k) es i = some none ∧ (∀ v, Bd k v l = l ++ [(k, v)]) ∧ Fb k l = l) ∨
  (∃ j v, AJ k l = some v ∧ Instr.findNow .string (.string k) es i = some (some (i + j, v)) ∧ (∃ e, es[j]? = some e ∧ e.key = .string k) ∧
   (∀ (f : MapEntry → MapEntry) u, (∀ e, (f e).key = .string k ∧ (f e).val = u) → (es.modify j f).map (fun e => (e.key, e.val)) = ((Bd k u l).map (fun p => (Value.string p.1, p.2)))) ∧
   (es.eraseIdx j).map (fun e => (e.key, e.val)) = (Fb k l).map (fun p => (Value.string p.1, p.2)))
 | [], [], i, _ => .inl ⟨rfl, rfl, fun _ => rfl, rfl⟩
 | [], _ :: _, i, h => by simp at h
 | _ :: _, [], i, h => by simp at h
 | e :: es, (k', v') :: l, i, h => by
  simp only [List.map_cons, List.cons.injEq, Prod.mk.injEq] at h
  obtain ⟨⟨hk, hv⟩, hr⟩ := h
  by_cases hkk : k = k'
  ·subst hkk
   refine .inr ⟨0, v', by simp [AJ], ?_, ⟨e, rfl, hk⟩, ?_, ?_⟩
   ·simp [Instr.findNow, hk, Instr.sameNow, hv, JS]
   ·intro f u hf
    simp [Bd, hr, hf]
   ·simp [Fb, hr]
  ·have hb : (k == k') = false := Lq hkk
   rcases Eu k es l (i + 1) hr with ⟨h1, h2, h3, h4⟩ | ⟨j, v, h1, h2, ⟨e1, he1, he2⟩, h3, h4⟩
   ·refine .inl ⟨by simp [AJ, hkk, h1], ?_, fun v => by simp [Bd, hkk, h3 v], by simp [Fb, hkk, h4]⟩
    simp [Instr.findNow, hk, Instr.sameNow, hb, h2]
   ·refine .inr ⟨j + 1, v, by simp [AJ, hkk, h1], ?_, ⟨e1, by simpa using he1, he2⟩, ?_, ?_⟩
    ·simp only [Instr.findNow, hk, Instr.sameNow, hb, h2]
     rw [show i + 1 + j = i + (j + 1) by omega]
    ·intro f u hf
     simp [Bd, hkk, hk, hv, h3 f u hf]
    ·simp [Fb, hkk, hk, hv, h4]
section
variable {P : Program} {w : World} {b : Nat} {l : List (ByteArray × Value)} {t kt et : TypeId}
theorem BN.run_lookup (h : BN w b l) (ht : P.underlying t = some (.map kt et)) (hk : P.underlying kt = some .string) {z : Value} (hz : (zeroValue et).run P w = .ok z w) (k : ByteArray) (c : Bool) :
  (Instr.lookup t (.map (some b)) (.string k) c).run P w = .ok (if c then .tuple #[(AJ k l).getD z, .bool (AJ k l).isSome] else (AJ k l).getD z) w := by
 obtain ⟨es, clock, hb, he⟩ := h
 have hg := MapKept.run_getObj_map (P := P) hb
 have hc := MapKept.run_checkKey (P := P) (w := w) (k := .string k) hk (by simp [MapKept.IsKey]) es.isEmpty 9999
 rcases Eu k es.toList l 0 he with ⟨h1, h2, _⟩ | ⟨j, v, h1, h2, _⟩
 ·have hf := MapKept.run_findKey (P := P) (w := w) hk h2
  simp [Instr.lookup, run_underlying ht, hg, hc, hf, h1, hz]
 ·have hf := MapKept.run_findKey (P := P) (w := w) hk h2
  simp [Instr.lookup, run_underlying ht, hg, hc, hf, h1]
theorem zq110 {P : Prop} (h : P := by
 have := Af hb
 simp [Array.getElem?_setIfInBounds, this]) : P := h
theorem BN.run_put (h : BN w b l) (ht : P.underlying t = some (.map kt et)) (hk : P.underlying kt = some .string) (k : ByteArray) (v : Value) :
  ∃ w', (Instr.mapUpdate t (.map (some b)) (.string k) v).run P w = .ok () w' ∧ BN w' b (Bd k v l) ∧ Ad [b] w w' := by
 obtain ⟨es, clock, hb, he⟩ := h
 have hg := MapKept.run_getObj_map (P := P) hb
 have hc := MapKept.run_checkKey (P := P) (w := w) (k := .string k) hk (by simp [MapKept.IsKey]) false 9999
 have hset : ∀ o, (setObj b o).run P w = .ok () { w with heap := w.heap.setIfInBounds b o } := fun o => MapKept.run_setObj_map o hb
 have hsame : ∀ o, Ad [b] w { w with heap := w.heap.setIfInBounds b o } := fun o => ⟨rfl, rfl, rfl, by simp, fun i _ hi => by
  have : i ≠ b := by simpa using hi
  simp [Array.getElem?_setIfInBounds, Ne.symm this]⟩
 have hnew : ∀ o, ({ w with heap := w.heap.setIfInBounds b o } : World).heap[b]? = some o := fun o => by
  exact zq110
 rcases Eu k es.toList l 0 he with ⟨h1, h2, h3, _⟩ | ⟨j, u, h1, h2, ⟨e, he1, he2⟩, h3, _⟩
 ·have hf := MapKept.run_findKey (P := P) (w := w) hk h2
  refine ⟨_, by simp [Instr.mapUpdate, run_underlying ht, hg, hc, hf, hset]; rfl, ⟨_, _, hnew _, ?_⟩, hsame _⟩
  simp [he, h3 v]
 ·have hf := MapKept.run_findKey (P := P) (w := w) hk h2
  have hst : (Instr.keyThatStays (.string k) (.string k)).run P w = .ok (.string k) w := MapKept.run_keyThatStays (d := .string) (by simp [MapKept.IsKey])
  have hj : es[j]? = some e := by simpa using he1
  refine ⟨_, by simp [Instr.mapUpdate, run_underlying ht, hg, hc, hf, hset, hj, he2, hst]; rfl, ⟨_, _, hnew _, ?_⟩, hsame _⟩
  simpa using h3 (fun e => { e with key := .string k, val := v }) v (fun _ => ⟨rfl, rfl⟩)
theorem BN.run_del (h : BN w b l) (ht : P.underlying t = some (.map kt et)) (hk : P.underlying kt = some .string) (k : ByteArray) (us : Array TypeId) (ty : TypeId) (hu : us[0]? = some t) :
  ∃ w', (Builtin.delete_ us ty #[.map (some b), .string k]).run P w = .ok (.tuple #[]) w' ∧ BN w' b (Fb k l) ∧ Ad [b] w w' := by
 obtain ⟨es, clock, hb, he⟩ := h
 have hg := MapKept.run_getObj_map (P := P) hb
 have hc := MapKept.run_checkKey (P := P) (w := w) (k := .string k) hk (by simp [MapKept.IsKey]) es.isEmpty 9999
 have hset : ∀ o, (setObj b o).run P w = .ok () { w with heap := w.heap.setIfInBounds b o } := fun o => MapKept.run_setObj_map o hb
 have hsame : ∀ o, Ad [b] w { w with heap := w.heap.setIfInBounds b o } := fun o => ⟨rfl, rfl, rfl, by simp, fun i _ hi => by
  have : i ≠ b := by simpa using hi
  simp [Array.getElem?_setIfInBounds, Ne.symm this]⟩
 have hnew : ∀ o, ({ w with heap := w.heap.setIfInBounds b o } : World).heap[b]? = some o := fun o => by
  exact zq110
 rcases Eu k es.toList l 0 he with ⟨h1, h2, _, h4⟩ | ⟨j, u, h1, h2, _, _, h4⟩
 ·have hf := MapKept.run_findKey (P := P) (w := w) hk h2
  refine ⟨_, by simp [Builtin.delete_, hu, run_underlying ht, hg, hc, hf, hset]; rfl, ⟨_, _, hnew _, ?_⟩, hsame _⟩
  simp [he, h4]
 ·have hf := MapKept.run_findKey (P := P) (w := w) hk h2
  refine ⟨_, by simp [Builtin.delete_, hu, run_underlying ht, hg, hc, hf, hset]; rfl, ⟨_, _, hnew _, ?_⟩, hsame _⟩
  rw [← h4]
  simp
end
section
variable {P : Program} {ops : Array Oper} {rest : List Oper} {o : Oper} {a : Act} {Q : Exit → Act → World → Prop} {w : World} {b : Nat} {l : List (ByteArray × Value)} {t kt et : TypeId}
theorem zq119 {P : Prop} (h : P := by
 unfold Oper.wp
 simp [execOp, hop, hm, hx, hv, hrun, Result.andThen]
 exact hK' _ _ (hK w' r1 r2)) : P := h
theorem DH (h : BN w b l) (ht : P.underlying t = some (.map kt et)) (hk : P.underlying kt = some .string)
  (hg : o.guard = none) (m x v : Operand) (hop : o.op = .mapUpdate t m x v) (k : ByteArray) (u : Value) (hm : a.eval m = .map (some b)) (hx : a.eval x = .string k) (hv : a.eval v = u)
  (hK : ∀ w', BN w' b (Bd k u l) → Ad [b] w w' → wpList P ops Q rest (a.put o.dst undef) w') : wpList P ops Q (o :: rest) a w := by
 refine wpList_plain hg fun K' hK' => ?_
 obtain ⟨w', hrun, r1, r2⟩ := h.run_put ht hk k u
 exact zq119
theorem QG (h : BN w b l) (ht : P.underlying t = some (.map kt et)) (hk : P.underlying kt = some .string)
  (hg : o.guard = none) (m x : Operand) (hop : o.op = .call { callee := .builtin .delete, args := #[m, x], argTypes := #[t, kt] }) (k : ByteArray) (hm : a.eval m = .map (some b)) (hx : a.eval x = .string k)
  (hK : ∀ w', BN w' b (Fb k l) → Ad [b] w w' → wpList P ops Q rest (a.put o.dst (.tuple #[])) w') : wpList P ops Q (o :: rest) a w := by
 refine wpList_plain hg fun K' hK' => ?_
 obtain ⟨w', hrun, r1, r2⟩ := h.run_del ht hk k #[t, kt] o.type rfl
 unfold Oper.wp execOp
 simp only [hop, resolve, invoke, builtin, Sem.run_bind, Sem.run_pure, Result.andThen_ok, List.map_toArray, List.map_cons, List.map_nil, hm, hx, hrun]
 exact hK' _ _ (hK w' r1 r2)
end
theorem Ai {w : World} {b i : Nat} {cs : Array Value} {t : TypeId} {fr : Nat × Nat} {v : Value} (h : w.heap[b]? = some (.cells cs t fr)) (hi : cs[i]? = some v := by rfl) : w.cell? ⟨b, i, none⟩ = some v := (Cc h i).trans hi
abbrev Row (w : World) (e k : Nat) (v : Value) (n : Nat) (xs : List Value) : Prop := w.ownsRow 0 e k v n xs
theorem Row.same {S : List Nat} {w w' : World} {e k n : Nat} {v : Value} {xs : List Value} (h : Row w e k v n xs) (hs : Ad S w w') (hn : ∀ b, v.ownBlock = some b → b ∉ S) : Row w' e k v n xs := by
 refine ⟨h.1, ?_⟩
 rcases h.2 with h2 | ⟨g, cap, cur, rfl, h0, h1, h3⟩
 ·exact .inl h2
 ·exact .inr ⟨g, cap, cur, rfl, h0, hs.get h1 (hn g rfl), h3⟩
theorem Row.lt {w : World} {e k n : Nat} {v : Value} {xs : List Value} (h : Row w e k v n xs) {b : Nat} (hb : v.ownBlock = some b) : b < w.heap.size := by
 rcases h.2 with ⟨rfl, _⟩ | ⟨g, cap, cur, rfl, h0, h1, h3⟩
 ·cases hb
 ·cases hb; exact Af h1
theorem zq130 {P : Prop} (h : P := by
 intro e'
 simp [Value.ownBlock] at e'
 subst e'
 rw [h1] at hb
 cases hb
 exact ht rfl) : P := h
theorem Row.ne {w : World} {e k n : Nat} {v : Value} {xs : List Value} (h : Row w e k v n xs) {b : Nat} {cs : Array Value} {t : TypeId} {fr : Nat × Nat} (hb : w.heap[b]? = some (.cells cs t fr)) (ht : e ≠ t) : v.ownBlock ≠ some b := by
 rcases h.2 with ⟨rfl, _⟩ | ⟨g, cap, cur, rfl, h0, h1, h3⟩
 ·simp [Value.ownBlock]
 ·exact zq130
theorem Row.ne_row {w : World} {e k n e' k' n' : Nat} {v v' : Value} {xs xs' : List Value} (h : Row w e k v n xs) (h' : Row w e' k' v' n' xs') (ht : e ≠ e') {b : Nat} (hb : v'.ownBlock = some b) : v.ownBlock ≠ some b := by
 rcases h'.2 with ⟨rfl, _⟩ | ⟨g, cap, cur, rfl, h0, h1, h3⟩
 ·cases hb
 ·cases hb; exact h.ne h1 ht
theorem Row.ne_map {w : World} {e k n : Nat} {v : Value} {xs : List Value} (h : Row w e k v n xs) {b : Nat} {es : Array MapEntry} {clock : Nat} (hb : w.heap[b]? = some (.map es clock)) : v.ownBlock ≠ some b := by
 rcases h.2 with ⟨rfl, _⟩ | ⟨g, cap, cur, rfl, h0, h1, h3⟩
 ·simp [Value.ownBlock]
 ·intro e'
  simp [Value.ownBlock] at e'
  subst e'
  rw [h1] at hb
  cases hb
theorem zq106 {P : Prop} (h : P := by
 rcases h.2 with ⟨rfl, rfl⟩ | ⟨g, cap, cur, rfl, _⟩
 ·exact ⟨none, 0, rfl⟩
 ·exact ⟨_, cap, rfl⟩) : P := h
theorem Row.shape {w : World} {e k n : Nat} {v : Value} {xs : List Value} (h : Row w e k v n xs) : ∃ A c, v = .slice A n c := by
 exact zq106
theorem Row.cell {w : World} {e k n : Nat} {v : Value} {xs : List Value} (h : Row w e k v n xs) {j : Nat} (hj : j < n * k) : ∃ g c, v = .slice (some ⟨g, 0, none⟩) n c ∧ w.cell? ⟨g, j, none⟩ = some (xs.getD j undef) ∧ w.frozen? ⟨g, j, none⟩ = false := by
 rcases h.2 with ⟨rfl, rfl⟩ | ⟨g, cap, cur, rfl, _, h1, h2, h3, h4, h5⟩
 ·simp at hj
 ·refine ⟨g, cap, rfl, ?_, AE h1 j⟩
  rw [Cc h1]
  have hl : j < xs.length := by rw [h.1]; exact hj
  have : xs[j]? = cur.toList[j]? := by rw [← h5, List.getElem?_take, if_pos hj]
  simp only [Array.getElem?_toList] at this
  rw [← this]
  simp [List.getD_eq_getElem?_getD, List.getElem?_eq_getElem hl]
theorem Row.set1 {w : World} {e k n g c : Nat} {xs : List Value} (h : Row w e k (.slice (some ⟨g, 0, none⟩) n c) n xs) {j : Nat} (hj : j < n * k) (u : Value) :
  Row (w.setCell ⟨g, j, none⟩ u) e k (.slice (some ⟨g, 0, none⟩) n c) n (xs.set j u) := by
 refine ⟨by simp [h.1], ?_⟩
 rcases h.2 with ⟨h1, _⟩ | ⟨g', cap, cur, h1, h2, h3, h4, h5, h6, h7⟩
 ·simp at h1
 ·cases h1
  refine .inr ⟨g, c, _, rfl, h2, AI h3 j u, h4, h5, by simp [h6], ?_⟩
  simp only [Array.toList_setIfInBounds]
  rw [← h7, List.take_set]
theorem Row.blk {w : World} {e k n m g c : Nat} {xs : List Value} (h : Row w e k (.slice (some ⟨g, 0, none⟩) m c) n xs) : ∃ cur, w.heap[g]? = some (.cells cur e (0, 0)) := by
 rcases h.2 with ⟨h1, _⟩ | ⟨g', cap, cur, h1, h2, h3, _⟩
 ·simp at h1
 ·cases h1; exact ⟨_, h3⟩
theorem Px (a b : ByteArray) : (a.toList == b.toList) = decide (a = b) := by
 rw [ByteArray.toList_eq, ByteArray.toList_eq]
 by_cases h : a = b
 ·subst h; simp
 ·have : a.data.toList ≠ b.data.toList := fun e => h (by
   cases a; cases b
   simp at e
   simp [e])
  rw [decide_eq_false h, beq_eq_false_iff_ne.2 this]
theorem AM (s : ByteArray) : s.toList.isEmpty = decide (s.size = 0) := by
 rw [ByteArray.toList_eq]
 have hl : s.data.toList.length = s.size := by simp
 cases hd : s.data.toList with
 | nil => rw [hd] at hl; rw [decide_eq_true (by simpa using hl.symm)]; rfl
 | cons x r => rw [hd] at hl; simp at hl; rw [decide_eq_false (by omega)]; rfl
theorem Dx (s : ByteArray) : s.toList = [] ↔ s.size = 0 := by
 have := AM s
 by_cases h : s.size = 0 <;> simp [h] at this ⊢ <;> exact this
theorem Fc {k : IntKind} {a b : Int} (h : a = b) : Ending.returned (.int k a) = .returned (.int k b) := by rw [h]
theorem B9 {a b : Bool} (h : a = b) : Ending.returned (.bool a) = .returned (.bool b) := by rw [h]
section
variable {P : Program} {ops : Array Oper} {rest : List Oper} {o : Oper} {a : Act} {Q : Exit → Act → World → Prop}
theorem Co {P : Program} {e : TypeId} {z : Value} {k bytes : Nat} (h : (P.info? e).map (fun i => (i.zero, i.size, i.bytes)) = some (some z, k, bytes)) : ∃ i, P.info? e = some i ∧ i.zero = some z ∧ i.size = k ∧ i.bytes = bytes := by
 obtain ⟨i, hi, hzz⟩ := Option.map_eq_some_iff.1 h
 simp only [Prod.mk.injEq] at hzz
 exact ⟨i, hi, hzz⟩
theorem K2 (w : World) (ys : List Value) (t : TypeId) : ∀ j u, ys[j]? = some u → (w.alloc (.cells ys.toArray t)).cell? ((⟨w.heap.size, 0, none⟩ : Addr).add j) = some u := by
 intro j u hj
 have : (⟨w.heap.size, 0, none⟩ : Addr).add j = ⟨w.heap.size, j, none⟩ := by unfold Addr.add; split <;> simp_all
 rw [this, Cc (Aj w _)]
 simpa using hj
theorem Bh {W : World} (hgd : o.guard = none) (s x : Operand) (t : TypeId) (ho : o.op = .call { callee := .builtin .append, args := #[s, x], argTypes := #[t, t] })
  (e k bytes : Nat) (z : Value) (ht : P.underlying t = some (.slice e)) (hinfo : (P.info? e).map (fun i => (i.zero, i.size, i.bytes)) = some (some z, k, bytes)) (hz : z.cells.size = k) (hk : 0 < k)
  (v : Value) (n : Nat) (xs : List Value) (hs : a.eval s = v) (hown : Row W e k v n xs) (ys : List Value) (hx : a.eval x = .slice (some ⟨W.heap.size, 0, none⟩) 1 1) (hl : ys.length = k) (h1 : ∀ u ∈ ys, u.oneCell' = true)
  (hn : (n + 1) * bytes ≤ 140737488355328) (hb : 0 < bytes)
  (h : ∀ v' w', Row w' e k v' (n + 1) (xs ++ ys) → Ad v.ownBlock.toList W w' → (v'.ownBlock = v.ownBlock ∨ ∃ b, v'.ownBlock = some b ∧ W.heap.size ≤ b) → wpList P ops Q rest (a.put o.dst v') w') :
  wpList P ops Q (o :: rest) a (W.alloc (.cells ys.toArray e)) := by
 obtain ⟨i, hi, hz0, hz1, hz2⟩ := Co hinfo
 have hlen : n + 1 ≤ 140737488355328 := Nat.le_trans (Nat.le_mul_of_pos_right _ hb) hn
 refine wpList_append_own_at _ hgd s x t ho 0 e i z k bytes ht hi hz0 hz1 hz2 hz hk v n xs hs (hown.same (Ad.alloc [] W _) (by simp)) ⟨W.heap.size, 0, none⟩ 1 1 ys hx (by simpa using hl) (K2 W ys e) h1 (by simp only [maxLen]; omega) hn (Nat.zero_le _) ?_
 intro v' w' hown' hg _ hat
 refine h v' w' hown' ((Ad.alloc _ W _).trans (Ad.of_grown hg)) ?_
 rcases hat with hat | hat
 ·exact .inl hat
 ·exact .inr ⟨_, hat, by simp⟩
end
end Go.Proofs.YtbfbgfpghkijdaaGreatDoor
