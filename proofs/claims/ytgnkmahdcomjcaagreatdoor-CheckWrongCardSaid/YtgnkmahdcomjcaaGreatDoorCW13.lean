/- Part of the proof that CheckWrong returns true, whatever the four bytes; tied to the program's own text (part 13 of 14) -/
import Derived.Test.YtgnkmahdcomjcaaGreatDoorCW12
import Derived.Shelf.Small.Bits
import Derived.Shelf.Strconv.Itoa0
import Derived.Shelf.Slices.Reverse
import Derived.Ground.Names2Prog
import Derived.Shelf.Slices.ReverseS
import Derived.Shelf.Slices.SearchI
import Derived.Shelf.Slices.Delete
import Derived.Shelf.Slices.Cells
import Derived.Shelf.Slices.Empties
import Derived.Ground.SlgmProg
import Derived.Shelf.SortM.Plain
import Derived.Shelf.SortM.SortNone
import Derived.Shelf.SlIterI.Nil
import Derived.Ground.GgzProg
import Derived.Test.YtgnkmahdcomjcaaGreatDoorProg
set_option linter.unusedVariables false
set_option linter.unusedSimpArgs false
namespace Go.Proofs
open Go.Shelf
def Tryz.lays128_ren : Go.Shelf.Ren := ⟨fun | 128 => 151 | n => n, fun | 51 => 50 | 3 => 3 | 4 => 4 | 46 => 211 | 5 => 5 | 9 => 9 | n => n, fun | n => n⟩
theorem Tryz.lays128 : Go.Proofs.Lays.n128 Tryz.prog Tryz.lays128_ren := {
  mixed := by kernel_rfl
  f128 := Tryz.func151.trans (congrArg some (by kernel_rfl))
  t3 := Tryz.underlying3
  a3 := Tryz.isAgg3
  z3 := Tryz.sizeOf3
  v3 := Tryz.zeroValue3
  t4 := Tryz.underlying4
  a4 := Tryz.isAgg4
  z4 := Tryz.sizeOf4
  v4 := Tryz.zeroValue4
  t5 := Tryz.underlying5
  a5 := Tryz.isAgg5
  z5 := Tryz.sizeOf5
  v5 := Tryz.zeroValue5
  t9 := Tryz.underlying9
  a9 := Tryz.isAgg9
  z9 := Tryz.sizeOf9
  v9 := Tryz.zeroValue9
  t46 := Tryz.underlying211
  a46 := Tryz.isAgg211
  z46 := Tryz.sizeOf211
  v46 := Tryz.zeroValue211
  t51 := Tryz.underlying50
  a51 := Tryz.isAgg50
  z51 := Tryz.sizeOf50
  v51 := Tryz.zeroValue50 }
theorem Tryz.bits_Len32 (x : Int) (w : World) (h0 : 0 ≤ x) (h1 : x ≤ 4294967295) :
    Calls Tryz.prog 151 #[.int .u32 x] w fun e w' => e = .returned (.int .i64 (Lib.bitLen x.toNat)) ∧ w' = w := Any.bits_Len32 Tryz.lays128 x w h0 h1
def Tryz.lays125_ren : Go.Shelf.Ren := ⟨fun | 125 => 128 | 128 => 151 | 129 => 152 | n => n, fun | 46 => 211 | 3 => 3 | 51 => 50 | 53 => 240 | 4 => 4 | 5 => 5 | 9 => 9 | n => n, fun | n => n⟩
theorem Tryz.lays125 : Go.Proofs.Lays.n125 Tryz.prog Tryz.lays125_ren := {
  mixed := by kernel_rfl
  f125 := Tryz.func128.trans (congrArg some (by kernel_rfl))
  f128 := Tryz.func151.trans (congrArg some (by kernel_rfl))
  f129 := Tryz.func152.trans (congrArg some (by kernel_rfl))
  t3 := Tryz.underlying3
  a3 := Tryz.isAgg3
  z3 := Tryz.sizeOf3
  v3 := Tryz.zeroValue3
  t4 := Tryz.underlying4
  a4 := Tryz.isAgg4
  z4 := Tryz.sizeOf4
  v4 := Tryz.zeroValue4
  t5 := Tryz.underlying5
  a5 := Tryz.isAgg5
  z5 := Tryz.sizeOf5
  v5 := Tryz.zeroValue5
  t9 := Tryz.underlying9
  a9 := Tryz.isAgg9
  z9 := Tryz.sizeOf9
  v9 := Tryz.zeroValue9
  t46 := Tryz.underlying211
  a46 := Tryz.isAgg211
  z46 := Tryz.sizeOf211
  v46 := Tryz.zeroValue211
  t51 := Tryz.underlying50
  a51 := Tryz.isAgg50
  z51 := Tryz.sizeOf50
  v51 := Tryz.zeroValue50
  t53 := Tryz.underlying240
  a53 := Tryz.isAgg240
  z53 := Tryz.sizeOf240
  v53 := Tryz.zeroValue240 }
theorem Tryz.bits_Len (x : Int) (w : World) (h0 : 0 ≤ x) (h1 : x ≤ 18446744073709551615) :
    Calls Tryz.prog 128 #[.int .u64 x] w fun e w' => e = .returned (.int .i64 (Lib.bitLen x.toNat)) ∧ w' = w := Any.bits_Len Tryz.lays125 x w h0 h1
def Tryz.lays135_ren : Go.Shelf.Ren := ⟨fun | 135 => 70 | n => n, fun | 5 => 5 | 3 => 3 | 9 => 9 | n => n, fun | n => n⟩
theorem Tryz.lays135 : Go.Proofs.Lays.n135 Tryz.prog Tryz.lays135_ren := {
  mixed := by kernel_rfl
  f135 := Tryz.func70.trans (congrArg some (by kernel_rfl))
  t3 := Tryz.underlying3
  a3 := Tryz.isAgg3
  z3 := Tryz.sizeOf3
  v3 := Tryz.zeroValue3
  t5 := Tryz.underlying5
  a5 := Tryz.isAgg5
  z5 := Tryz.sizeOf5
  v5 := Tryz.zeroValue5
  t9 := Tryz.underlying9
  a9 := Tryz.isAgg9
  z9 := Tryz.sizeOf9
  v9 := Tryz.zeroValue9 }
theorem Tryz.bits_OnesCount8 (x : Int) (w : World) (h0 : 0 ≤ x) (h1 : x ≤ 255) :
    Calls Tryz.prog 70 #[.int .u8 x] w fun e w' => e = .returned (.int .i64 (Lib.onesCount x.toNat)) ∧ w' = w := Any.bits_OnesCount8 Tryz.lays135 x w h0 h1
def Tryz.lays129_ren : Go.Shelf.Ren := ⟨fun | 129 => 152 | n => n, fun | 53 => 240 | 3 => 3 | 4 => 4 | 46 => 211 | 5 => 5 | 9 => 9 | n => n, fun | n => n⟩
theorem Tryz.lays129 : Go.Proofs.Lays.n129 Tryz.prog Tryz.lays129_ren := {
  mixed := by kernel_rfl
  f129 := Tryz.func152.trans (congrArg some (by kernel_rfl))
  t3 := Tryz.underlying3
  a3 := Tryz.isAgg3
  z3 := Tryz.sizeOf3
  v3 := Tryz.zeroValue3
  t4 := Tryz.underlying4
  a4 := Tryz.isAgg4
  z4 := Tryz.sizeOf4
  v4 := Tryz.zeroValue4
  t5 := Tryz.underlying5
  a5 := Tryz.isAgg5
  z5 := Tryz.sizeOf5
  v5 := Tryz.zeroValue5
  t9 := Tryz.underlying9
  a9 := Tryz.isAgg9
  z9 := Tryz.sizeOf9
  v9 := Tryz.zeroValue9
  t46 := Tryz.underlying211
  a46 := Tryz.isAgg211
  z46 := Tryz.sizeOf211
  v46 := Tryz.zeroValue211
  t53 := Tryz.underlying240
  a53 := Tryz.isAgg240
  z53 := Tryz.sizeOf240
  v53 := Tryz.zeroValue240 }
theorem Tryz.bits_Len64 (x : Int) (w : World) (h0 : 0 ≤ x) (h1 : x ≤ 18446744073709551615) :
    Calls Tryz.prog 152 #[.int .u64 x] w fun e w' => e = .returned (.int .i64 (Lib.bitLen x.toNat)) ∧ w' = w := Any.bits_Len64 Tryz.lays129 x w h0 h1
def Tryz.lays112_ren : Go.Shelf.Ren := ⟨fun | 112 => 168 | n => n, fun | 28 => 31 | 3 => 3 | 4 => 4 | 0 => 0 | n => n, fun | n => n⟩
theorem Tryz.lays112 : Go.Proofs.Lays.n112 Tryz.prog Tryz.lays112_ren := {
  mixed := by kernel_rfl
  f112 := Tryz.func168.trans (congrArg some (by kernel_rfl))
  t0 := Tryz.underlying0
  a0 := Tryz.isAgg0
  z0 := Tryz.sizeOf0
  v0 := Tryz.zeroValue0
  t3 := Tryz.underlying3
  a3 := Tryz.isAgg3
  z3 := Tryz.sizeOf3
  v3 := Tryz.zeroValue3
  t4 := Tryz.underlying4
  a4 := Tryz.isAgg4
  z4 := Tryz.sizeOf4
  v4 := Tryz.zeroValue4
  t28 := Tryz.underlying31
  a28 := Tryz.isAgg31
  z28 := Tryz.sizeOf31
  v28 := Tryz.zeroValue31 }
open Go.RowKit Go.Lib Go.Sort in
theorem Tryz.slices_Reverse_int_arr (blk off cap : Nat) (d : Array Int) (w : World) (hH : Holds encI w blk off d) (hsz : d.size ≤ 9223372036854775807) :
    Calls Tryz.prog 168 #[.slice (some ⟨blk, off, none⟩) d.size cap] w fun e w' => e = .returned (.tuple #[]) ∧ ∃ n, w' = putRow encI (Sort.ahead w n) blk off d.reverse := Any.slices_Reverse_int_arr Tryz.lays112 blk off cap d w hH hsz
open Go.RowKit Go.Lib Go.Sort in
theorem Tryz.slices_Reverse_int (blk off cap : Nat) (zs : List Int) (w : World) (hH : Holds (Value.int .i64) w blk off zs.toArray) (hsz : zs.length ≤ 9223372036854775807) :
    Calls Tryz.prog 168 #[.slice (some ⟨blk, off, none⟩) zs.length cap] w fun e w' => e = .returned (.tuple #[]) ∧ ∃ n, w' = putRow (Value.int .i64) (Sort.ahead w n) blk off zs.reverse.toArray := Any.slices_Reverse_int Tryz.lays112 blk off cap zs w hH hsz
open Go.RowKit Go.Lib Go.Sort in
theorem Tryz.slices_Reverse_int_empty (a : Option Addr) (cap : Nat) (w : World) :
    Calls Tryz.prog 168 #[.slice a 0 cap] w fun e w' => e = .returned (.tuple #[]) ∧ w' = w := Any.slices_Reverse_int_empty Tryz.lays112 a cap w
def Tryz.laysNm217_ren : Go.Shelf.Ren := ⟨fun | 17 => 169 | n => n, fun | 24 => 32 | 9 => 9 | 3 => 3 | 4 => 4 | 0 => 0 | n => n, fun | n => n⟩
theorem Tryz.laysNm217 : Go.Proofs.Lays2.n17 Tryz.prog Tryz.laysNm217_ren := {
  mixed := by kernel_rfl
  f17 := Tryz.func169.trans (congrArg some (by kernel_rfl))
  t0 := Tryz.underlying0
  a0 := Tryz.isAgg0
  z0 := Tryz.sizeOf0
  v0 := Tryz.zeroValue0
  t3 := Tryz.underlying3
  a3 := Tryz.isAgg3
  z3 := Tryz.sizeOf3
  v3 := Tryz.zeroValue3
  t4 := Tryz.underlying4
  a4 := Tryz.isAgg4
  z4 := Tryz.sizeOf4
  v4 := Tryz.zeroValue4
  t9 := Tryz.underlying9
  a9 := Tryz.isAgg9
  z9 := Tryz.sizeOf9
  v9 := Tryz.zeroValue9
  t24 := Tryz.underlying32
  a24 := Tryz.isAgg32
  z24 := Tryz.sizeOf32
  v24 := Tryz.zeroValue32 }
open Go.RowKit Go.Lib Go.Sort in
theorem Tryz.slices_Reverse_string_arr (blk off cap : Nat) (d : Array (List UInt8)) (w : World) (hH : Holds encStr w blk off d) (hsz : d.size ≤ 9223372036854775807) :
    Calls Tryz.prog 169 #[.slice (some ⟨blk, off, none⟩) d.size cap] w fun e w' => e = .returned (.tuple #[]) ∧ ∃ n, w' = putRow encStr (Sort.ahead w n) blk off d.reverse := Any.slices_Reverse_string_arr Tryz.laysNm217 blk off cap d w hH hsz
open Go.RowKit Go.Lib Go.Sort in
theorem Tryz.slices_Reverse_string (blk off cap : Nat) (zs : List (List UInt8)) (w : World) (hH : Holds encStr w blk off zs.toArray) (hsz : zs.length ≤ 9223372036854775807) :
    Calls Tryz.prog 169 #[.slice (some ⟨blk, off, none⟩) zs.length cap] w fun e w' => e = .returned (.tuple #[]) ∧ ∃ n, w' = putRow encStr (Sort.ahead w n) blk off zs.reverse.toArray := Any.slices_Reverse_string Tryz.laysNm217 blk off cap zs w hH hsz
open Go.RowKit Go.Lib Go.Sort in
theorem Tryz.slices_Reverse_string_empty (a : Option Addr) (cap : Nat) (w : World) :
    Calls Tryz.prog 169 #[.slice a 0 cap] w fun e w' => e = .returned (.tuple #[]) ∧ w' = w := Any.slices_Reverse_string_empty Tryz.laysNm217 a cap w
def Tryz.laysNm237_ren : Go.Shelf.Ren := ⟨fun | 37 => 167 | n => n, fun | 3 => 3 | 4 => 4 | n => n, fun | n => n⟩
theorem Tryz.laysNm237 : Go.Proofs.Lays2.n37 Tryz.prog Tryz.laysNm237_ren := {
  mixed := by kernel_rfl
  f37 := Tryz.func167.trans (congrArg some (by kernel_rfl))
  t3 := Tryz.underlying3
  a3 := Tryz.isAgg3
  z3 := Tryz.sizeOf3
  v3 := Tryz.zeroValue3
  t4 := Tryz.underlying4
  a4 := Tryz.isAgg4
  z4 := Tryz.sizeOf4
  v4 := Tryz.zeroValue4 }
open Go.RowKit Go.Lib in
theorem Tryz.cmp_isNaN_int2 (x : Int) (w : World) :
    Calls Tryz.prog 167 #[.int .i64 x] w fun e w' => e = .returned (.bool false) ∧ w' = w := Any.cmp_isNaN_int2 Tryz.laysNm237 x w
def Tryz.laysNm232_ren : Go.Shelf.Ren := ⟨fun | 32 => 153 | n => n, fun | 3 => 3 | 4 => 4 | n => n, fun | n => n⟩
theorem Tryz.laysNm232 : Go.Proofs.Lays2.n32 Tryz.prog Tryz.laysNm232_ren := {
  mixed := by kernel_rfl
  f32 := Tryz.func153.trans (congrArg some (by kernel_rfl))
  t3 := Tryz.underlying3
  a3 := Tryz.isAgg3
  z3 := Tryz.sizeOf3
  v3 := Tryz.zeroValue3
  t4 := Tryz.underlying4
  a4 := Tryz.isAgg4
  z4 := Tryz.sizeOf4
  v4 := Tryz.zeroValue4 }
open Go.RowKit Go.Lib in
theorem Tryz.slices_isNaN_int2 (x : Int) (w : World) :
    Calls Tryz.prog 153 #[.int .i64 x] w fun e w' => e = .returned (.bool false) ∧ w' = w := Any.slices_isNaN_int2 Tryz.laysNm232 x w
def Tryz.laysNm231_ren : Go.Shelf.Ren := ⟨fun | 31 => 148 | 37 => 167 | n => n, fun | 3 => 3 | 4 => 4 | n => n, fun | n => n⟩
theorem Tryz.laysNm231 : Go.Proofs.Lays2.n31 Tryz.prog Tryz.laysNm231_ren := {
  mixed := by kernel_rfl
  f31 := Tryz.func148.trans (congrArg some (by kernel_rfl))
  f37 := Tryz.func167.trans (congrArg some (by kernel_rfl))
  t3 := Tryz.underlying3
  a3 := Tryz.isAgg3
  z3 := Tryz.sizeOf3
  v3 := Tryz.zeroValue3
  t4 := Tryz.underlying4
  a4 := Tryz.isAgg4
  z4 := Tryz.sizeOf4
  v4 := Tryz.zeroValue4 }
open Go.RowKit Go.Lib in
theorem Tryz.cmp_Less_int2 (x y : Int) (w : World) :
    Calls Tryz.prog 148 #[.int .i64 x, .int .i64 y] w fun e w' => e = .returned (.bool (decide (x < y))) ∧ w' = w := Any.cmp_Less_int2 Tryz.laysNm231 x y w
def Tryz.laysNm225_ren : Go.Shelf.Ren := ⟨fun | 25 => 129 | 31 => 148 | 32 => 153 | 37 => 167 | n => n, fun | 22 => 31 | 3 => 3 | 4 => 4 | 40 => 211 | 0 => 0 | n => n, fun | n => n⟩
theorem Tryz.laysNm225 : Go.Proofs.Lays2.n25 Tryz.prog Tryz.laysNm225_ren := {
  mixed := by kernel_rfl
  f25 := Tryz.func129.trans (congrArg some (by kernel_rfl))
  f31 := Tryz.func148.trans (congrArg some (by kernel_rfl))
  f32 := Tryz.func153.trans (congrArg some (by kernel_rfl))
  f37 := Tryz.func167.trans (congrArg some (by kernel_rfl))
  t0 := Tryz.underlying0
  a0 := Tryz.isAgg0
  z0 := Tryz.sizeOf0
  v0 := Tryz.zeroValue0
  t3 := Tryz.underlying3
  a3 := Tryz.isAgg3
  z3 := Tryz.sizeOf3
  v3 := Tryz.zeroValue3
  t4 := Tryz.underlying4
  a4 := Tryz.isAgg4
  z4 := Tryz.sizeOf4
  v4 := Tryz.zeroValue4
  t22 := Tryz.underlying31
  a22 := Tryz.isAgg31
  z22 := Tryz.sizeOf31
  v22 := Tryz.zeroValue31
  t40 := Tryz.underlying211
  a40 := Tryz.isAgg211
  z40 := Tryz.sizeOf211
  v40 := Tryz.zeroValue211 }
open Go.RowKit Go.Lib in
theorem Tryz.slices_BinarySearch_int (b off n c : Nat) (zs : List Int) (x : Int) (w : World) (hz : n ≤ zs.length) (hbig : n < 4611686018427387904) (hc : ∀ j, j < zs.length → w.cell? ⟨b, off + j, none⟩ = some (.int .i64 (zs.getD j 0))) (hs : (zs.take n).Pairwise (· ≤ ·)) :
    Calls Tryz.prog 129 #[.slice (some ⟨b, off, none⟩) n c, .int .i64 x] w fun e w' => e = .returned (.tuple #[.int .i64 ((zs.take n).countP (· < x) : Nat), .bool ((zs.take n).contains x)]) ∧ ∃ q, w' = w.drewN q := Any.slices_BinarySearch_int Tryz.laysNm225 b off n c zs x w hz hbig hc hs
def Tryz.laysNm223_ren : Go.Shelf.Ren := ⟨fun | 23 => 109 | n => n, fun | 22 => 31 | 3 => 3 | 4 => 4 | 0 => 0 | n => n, fun | n => n⟩
theorem Tryz.laysNm223 : Go.Proofs.Lays2.n23 Tryz.prog Tryz.laysNm223_ren := {
  mixed := by kernel_rfl
  f23 := Tryz.func109.trans (congrArg some (by kernel_rfl))
  t0 := Tryz.underlying0
  a0 := Tryz.isAgg0
  z0 := Tryz.sizeOf0
  v0 := Tryz.zeroValue0
  t3 := Tryz.underlying3
  a3 := Tryz.isAgg3
  z3 := Tryz.sizeOf3
  v3 := Tryz.zeroValue3
  t4 := Tryz.underlying4
  a4 := Tryz.isAgg4
  z4 := Tryz.sizeOf4
  v4 := Tryz.zeroValue4
  t22 := Tryz.underlying31
  a22 := Tryz.isAgg31
  z22 := Tryz.sizeOf31
  v22 := Tryz.zeroValue31
  i3 := by kernel_rfl }
open Go.RowKit Go.Lib Go.Sort in
theorem Tryz.slices_Delete_int_arr (blk off cap i j : Nat) (d : Array Int) (w : World) (hH : Holds encI w blk off d) (hcap : d.size ≤ cap) (hm : cap ≤ 9223372036854775807) (hij : i ≤ j) (hj : j ≤ d.size) :
    Calls Tryz.prog 109 #[.slice (some ⟨blk, off, none⟩) d.size cap, .int .i64 i, .int .i64 j] w fun e w' => e = .returned (.slice (some ⟨blk, off, none⟩) (d.size - (j - i)) cap) ∧ ∃ q, w' = putRow encI (Sort.ahead w q) blk off (d.toList.take i ++ d.toList.drop j ++ List.replicate (j - i) 0).toArray := Any.slices_Delete_int_arr Tryz.laysNm223 blk off cap i j d w hH hcap hm hij hj
open Go.RowKit Go.Lib Go.Sort in
theorem Tryz.slices_Delete_int (blk off cap i j : Nat) (zs : List Int) (w : World) (hH : Holds (Value.int .i64) w blk off zs.toArray) (hcap : zs.length ≤ cap) (hm : cap ≤ 9223372036854775807) (hij : i ≤ j) (hj : j ≤ zs.length) :
    Calls Tryz.prog 109 #[.slice (some ⟨blk, off, none⟩) zs.length cap, .int .i64 i, .int .i64 j] w fun e w' => e = .returned (.slice (some ⟨blk, off, none⟩) (zs.length - (j - i)) cap) ∧ ∃ q, w' = putRow (Value.int .i64) (Sort.ahead w q) blk off (zs.take i ++ zs.drop j ++ List.replicate (j - i) 0).toArray := Any.slices_Delete_int Tryz.laysNm223 blk off cap i j zs w hH hcap hm hij hj
def Tryz.laysNm224_ren : Go.Shelf.Ren := ⟨fun | 24 => 110 | n => n, fun | 24 => 32 | 9 => 9 | 3 => 3 | 4 => 4 | 0 => 0 | n => n, fun | n => n⟩
theorem Tryz.laysNm224 : Go.Proofs.Lays2.n24 Tryz.prog Tryz.laysNm224_ren := {
  mixed := by kernel_rfl
  f24 := Tryz.func110.trans (congrArg some (by kernel_rfl))
  t0 := Tryz.underlying0
  a0 := Tryz.isAgg0
  z0 := Tryz.sizeOf0
  v0 := Tryz.zeroValue0
  t3 := Tryz.underlying3
  a3 := Tryz.isAgg3
  z3 := Tryz.sizeOf3
  v3 := Tryz.zeroValue3
  t4 := Tryz.underlying4
  a4 := Tryz.isAgg4
  z4 := Tryz.sizeOf4
  v4 := Tryz.zeroValue4
  t9 := Tryz.underlying9
  a9 := Tryz.isAgg9
  z9 := Tryz.sizeOf9
  v9 := Tryz.zeroValue9
  t24 := Tryz.underlying32
  a24 := Tryz.isAgg32
  z24 := Tryz.sizeOf32
  v24 := Tryz.zeroValue32
  i9 := by kernel_rfl }
open Go.RowKit Go.Lib Go.Sort in
theorem Tryz.slices_Delete_string_arr (blk off cap i j : Nat) (d : Array (List UInt8)) (w : World) (hH : Holds encStr w blk off d) (hcap : d.size ≤ cap) (hm : cap ≤ 9223372036854775807) (hij : i ≤ j) (hj : j ≤ d.size) :
    Calls Tryz.prog 110 #[.slice (some ⟨blk, off, none⟩) d.size cap, .int .i64 i, .int .i64 j] w fun e w' => e = .returned (.slice (some ⟨blk, off, none⟩) (d.size - (j - i)) cap) ∧ ∃ q, w' = putRow encStr (Sort.ahead w q) blk off (d.toList.take i ++ d.toList.drop j ++ List.replicate (j - i) []).toArray := Any.slices_Delete_string_arr Tryz.laysNm224 blk off cap i j d w hH hcap hm hij hj
open Go.RowKit Go.Lib Go.Sort in
theorem Tryz.slices_Delete_string (blk off cap i j : Nat) (zs : List (List UInt8)) (w : World) (hH : Holds encStr w blk off zs.toArray) (hcap : zs.length ≤ cap) (hm : cap ≤ 9223372036854775807) (hij : i ≤ j) (hj : j ≤ zs.length) :
    Calls Tryz.prog 110 #[.slice (some ⟨blk, off, none⟩) zs.length cap, .int .i64 i, .int .i64 j] w fun e w' => e = .returned (.slice (some ⟨blk, off, none⟩) (zs.length - (j - i)) cap) ∧ ∃ q, w' = putRow encStr (Sort.ahead w q) blk off (zs.take i ++ zs.drop j ++ List.replicate (j - i) []).toArray := Any.slices_Delete_string Tryz.laysNm224 blk off cap i j zs w hH hcap hm hij hj
open Go.RowKit Go.Lib Go.Sort in
theorem Tryz.slices_Reverse_int_cells (b off n c : Nat) (zs : List Int) (w : World) (hz : n ≤ zs.length) (hbig : n ≤ 9223372036854775807) (hc : ∀ j, j < zs.length → w.cell? ⟨b, off + j, none⟩ = some (.int .i64 (zs.getD j 0))) (hf : ∀ j, j < n → w.frozen? ⟨b, off + j, none⟩ = false) :
    Calls Tryz.prog 168 #[.slice (some ⟨b, off, none⟩) n c] w fun e w' => e = .returned (.tuple #[]) ∧ ∃ q, w' = (w.drewN q).setCells b off ((zs.take n).reverse.map (Value.int .i64)) := Any.slices_Reverse_int_cells Tryz.lays112 b off n c zs w hz hbig hc hf
open Go.RowKit Go.Lib Go.Sort in
theorem Tryz.slices_Delete_int_cells (b off n c i j : Nat) (zs : List Int) (w : World) (hz : n ≤ zs.length) (hcap : n ≤ c) (hm : c ≤ 9223372036854775807) (hij : i ≤ j) (hj : j ≤ n) (hc : ∀ j, j < zs.length → w.cell? ⟨b, off + j, none⟩ = some (.int .i64 (zs.getD j 0))) (hf : ∀ j, j < n → w.frozen? ⟨b, off + j, none⟩ = false) :
    Calls Tryz.prog 109 #[.slice (some ⟨b, off, none⟩) n c, .int .i64 i, .int .i64 j] w fun e w' => e = .returned (.slice (some ⟨b, off, none⟩) (n - (j - i)) c) ∧ ∃ q, w' = (w.drewN q).setCells b off (((zs.take n).take i ++ (zs.take n).drop j ++ List.replicate (j - i) 0).map (Value.int .i64)) := Any.slices_Delete_int_cells Tryz.laysNm223 b off n c i j zs w hz hcap hm hij hj hc hf
open Go.RowKit Go.Lib Go.Sort in
theorem Tryz.slices_Reverse_string_cells (b off n c : Nat) (Sx : Nat → ByteArray) (w : World) (hbig : n ≤ 9223372036854775807) (hc : ∀ i, i < n → w.cell? ⟨b, off + i, none⟩ = some (.string (Sx i))) (hf : ∀ j, j < n → w.frozen? ⟨b, off + j, none⟩ = false) :
    Calls Tryz.prog 169 #[.slice (some ⟨b, off, none⟩) n c] w fun e w' => e = .returned (.tuple #[]) ∧ ∃ q, w' = (w.drewN q).setCells b off ((Lib.strsOf Sx n).reverse.map encStr) := Any.slices_Reverse_string_cells Tryz.laysNm217 b off n c Sx w hbig hc hf
open Go.RowKit Go.Lib Go.Sort in
theorem Tryz.slices_Delete_string_cells (b off n c i j : Nat) (Sx : Nat → ByteArray) (w : World) (hcap : n ≤ c) (hm : c ≤ 9223372036854775807) (hij : i ≤ j) (hj : j ≤ n) (hc : ∀ i, i < n → w.cell? ⟨b, off + i, none⟩ = some (.string (Sx i))) (hf : ∀ j, j < n → w.frozen? ⟨b, off + j, none⟩ = false) :
    Calls Tryz.prog 110 #[.slice (some ⟨b, off, none⟩) n c, .int .i64 i, .int .i64 j] w fun e w' => e = .returned (.slice (some ⟨b, off, none⟩) (n - (j - i)) c) ∧ ∃ q, w' = (w.drewN q).setCells b off (((Lib.strsOf Sx n).take i ++ (Lib.strsOf Sx n).drop j ++ List.replicate (j - i) []).map encStr) := Any.slices_Delete_string_cells Tryz.laysNm224 b off n c i j Sx w hcap hm hij hj hc hf
open Go.RowKit Go.Lib in
theorem Tryz.slices_BinarySearch_int_empty (a : Option Addr) (c : Nat) (x : Int) (w : World) :
    Calls Tryz.prog 129 #[.slice a 0 c, .int .i64 x] w fun e w' => e = .returned (.tuple #[.int .i64 0, .bool false]) ∧ w' = w := Any.slices_BinarySearch_int_empty Tryz.laysNm225 a c x w
open Go.RowKit Go.Lib in
theorem Tryz.slices_Delete_int_empty (a : Option Addr) (c : Nat) (w : World) :
    Calls Tryz.prog 109 #[.slice a 0 c, .int .i64 0, .int .i64 0] w fun e w' => e = .returned (.slice a 0 c) ∧ w' = w := Any.slices_Delete_int_empty Tryz.laysNm223 a c w
open Go.RowKit Go.Lib in
theorem Tryz.slices_Delete_string_empty (a : Option Addr) (c : Nat) (w : World) :
    Calls Tryz.prog 110 #[.slice a 0 c, .int .i64 0, .int .i64 0] w fun e w' => e = .returned (.slice a 0 c) ∧ w' = w := Any.slices_Delete_string_empty Tryz.laysNm224 a c w
def Tryz.laysSlM5_f99_ren : Go.Shelf.Ren := ⟨fun | 5 => 99 | 8 => 128 | 7 => 127 | 19 => 151 | 20 => 152 | 10 => 142 | 11 => 143 | 12 => 144 | 13 => 145 | 14 => 146 | 15 => 147 | 16 => 148 | 17 => 149 | 18 => 150 | 30 => 162 | 31 => 163 | 32 => 164 | 33 => 165 | 34 => 166 | 35 => 167 | 40 => 172 | n => n, fun | 23 => 31 | 25 => 3 | 3 => 3 | 32 => 211 | 22 => 31 | 0 => 0 | 44 => 50 | 46 => 240 | 4 => 4 | 36 => 233 | 35 => 232 | 41 => 114 | 5 => 5 | 9 => 9 | 53 => 248 | 57 => 252 | 63 => 259 | 64 => 260 | n => n, fun | n => n⟩
theorem Tryz.laysSlM5_f99 : Go.Proofs.SlLaysM.n5 Tryz.prog Tryz.laysSlM5_f99_ren := {
  mixed := by kernel_rfl
  f5 := ⟨Tryz.f99.name, by decide, Tryz.func99.trans (congrArg some (by kernel_rfl))⟩
  f7 := ⟨Tryz.f127.name, by decide, Tryz.func127.trans (congrArg some (by kernel_rfl))⟩
  f8 := Tryz.func128.trans (congrArg some (by kernel_rfl))
  f10 := ⟨Tryz.f142.name, by decide, Tryz.func142.trans (congrArg some (by kernel_rfl))⟩
  f11 := ⟨Tryz.f143.name, by decide, Tryz.func143.trans (congrArg some (by kernel_rfl))⟩
  f12 := ⟨Tryz.f144.name, by decide, Tryz.func144.trans (congrArg some (by kernel_rfl))⟩
  f13 := ⟨Tryz.f145.name, by decide, Tryz.func145.trans (congrArg some (by kernel_rfl))⟩
  f14 := ⟨Tryz.f146.name, by decide, Tryz.func146.trans (congrArg some (by kernel_rfl))⟩
  f15 := ⟨Tryz.f147.name, by decide, Tryz.func147.trans (congrArg some (by kernel_rfl))⟩
  f16 := ⟨Tryz.f148.name, by decide, Tryz.func148.trans (congrArg some (by kernel_rfl))⟩
  f17 := ⟨Tryz.f149.name, by decide, Tryz.func149.trans (congrArg some (by kernel_rfl))⟩
  f18 := ⟨Tryz.f150.name, by decide, Tryz.func150.trans (congrArg some (by kernel_rfl))⟩
  f19 := Tryz.func151.trans (congrArg some (by kernel_rfl))
  f20 := Tryz.func152.trans (congrArg some (by kernel_rfl))
  f30 := ⟨Tryz.f162.name, by decide, Tryz.func162.trans (congrArg some (by kernel_rfl))⟩
  f31 := Tryz.func163.trans (congrArg some (by kernel_rfl))
  f32 := Tryz.func164.trans (congrArg some (by kernel_rfl))
  f33 := ⟨Tryz.f165.name, by decide, Tryz.func165.trans (congrArg some (by kernel_rfl))⟩
  f34 := ⟨Tryz.f166.name, by decide, Tryz.func166.trans (congrArg some (by kernel_rfl))⟩
  f35 := ⟨Tryz.f167.name, by decide, Tryz.func167.trans (congrArg some (by kernel_rfl))⟩
  f40 := ⟨Tryz.f172.name, by decide, Tryz.func172.trans (congrArg some (by kernel_rfl))⟩
  t0 := Tryz.underlying0
  a0 := Tryz.isAgg0
  z0 := Tryz.sizeOf0
  v0 := Tryz.zeroValue0
  t3 := Tryz.underlying3
  a3 := Tryz.isAgg3
  z3 := Tryz.sizeOf3
  v3 := Tryz.zeroValue3
  t4 := Tryz.underlying4
  a4 := Tryz.isAgg4
  z4 := Tryz.sizeOf4
  v4 := Tryz.zeroValue4
  t5 := Tryz.underlying5
  a5 := Tryz.isAgg5
  z5 := Tryz.sizeOf5
  v5 := Tryz.zeroValue5
  t9 := Tryz.underlying9
  a9 := Tryz.isAgg9
  z9 := Tryz.sizeOf9
  v9 := Tryz.zeroValue9
  t22 := Tryz.underlying31
  a22 := Tryz.isAgg31
  z22 := Tryz.sizeOf31
  v22 := Tryz.zeroValue31
  t23 := Tryz.underlying31
  a23 := Tryz.isAgg31
  z23 := Tryz.sizeOf31
  v23 := Tryz.zeroValue31
  t25 := Tryz.underlying3
  a25 := Tryz.isAgg3
  z25 := Tryz.sizeOf3
  v25 := Tryz.zeroValue3
  t32 := Tryz.underlying211
  a32 := Tryz.isAgg211
  z32 := Tryz.sizeOf211
  v32 := Tryz.zeroValue211
  t35 := Tryz.underlying232
  a35 := Tryz.isAgg232
  z35 := Tryz.sizeOf232
  v35 := Tryz.zeroValue232
  t36 := Tryz.underlying233
  a36 := Tryz.isAgg233
  z36 := Tryz.sizeOf233
  v36 := Tryz.zeroValue233
  t41 := Tryz.underlying114
  a41 := Tryz.isAgg114
  z41 := Tryz.sizeOf114
  v41 := Tryz.zeroValue114
  t44 := Tryz.underlying50
  a44 := Tryz.isAgg50
  z44 := Tryz.sizeOf50
  v44 := Tryz.zeroValue50
  t46 := Tryz.underlying240
  a46 := Tryz.isAgg240
  z46 := Tryz.sizeOf240
  v46 := Tryz.zeroValue240
  t53 := Tryz.underlying248
  a53 := Tryz.isAgg248
  z53 := Tryz.sizeOf248
  v53 := Tryz.zeroValue248
  t57 := Tryz.underlying252
  a57 := Tryz.isAgg252
  z57 := Tryz.sizeOf252
  v57 := Tryz.zeroValue252
  t63 := Tryz.underlying259
  a63 := Tryz.isAgg259
  z63 := Tryz.sizeOf259
  v63 := Tryz.zeroValue259
  t64 := Tryz.underlying260
  a64 := Tryz.isAgg260
  z64 := Tryz.sizeOf260
  v64 := Tryz.zeroValue260 }
open Go.Sort Go.RowKit in
theorem Tryz.slices_Sort_int (blk off cap : Nat) (zs : List Int) (w : World) (hH : Holds (Value.int .i64) w blk off zs.toArray) (hblk : blk < w.heap.size) (hsz : zs.length < 4611686018427387904) :
    Calls Tryz.prog 99 #[.slice (some ⟨blk, off, none⟩) zs.length cap] w fun e w' =>
      e = .returned (.tuple #[]) ∧ ∃ n os, w' = grow (putRow (Value.int .i64) (Sort.ahead w n) blk off (zs.mergeSort fun x y => decide (x ≤ y)).toArray) os := AnyM.slices_Sort_int Tryz.laysSlM5_f99 blk off cap zs w hH hblk hsz
open Go.RowKit Go.Sort in
theorem Tryz.slices_Sort_int_none (p : Option Addr) (cap : Nat) (w : World) :
    Calls Tryz.prog 99 #[.slice p 0 cap] w fun e w' => e = .returned (.tuple #[]) ∧ w' = w := AnyM.slices_Sort_int_none Tryz.laysSlM5_f99 p cap w
def Tryz.keysI_ren : Go.Shelf.Ren := ⟨fun | 7 => 63 | 10 => 100 | n => n, fun | 23 => 128 | 26 => 3 | 3 => 4 | 28 => 126 | 0 => 0 | 27 => 125 | 33 => 161 | 4 => 4 | n => n, fun | n => n⟩
theorem Tryz.keysI : Go.Proofs.SlLaysZI.n7 Tryz.prog Tryz.keysI_ren := {
  mixed := by kernel_rfl
  f7 := ⟨Tryz.f63.name, by decide, Tryz.func63.trans (congrArg some (by kernel_rfl))⟩
  f10 := ⟨Tryz.f100.name, by decide, Tryz.func100.trans (congrArg some (by kernel_rfl))⟩
  t0 := Tryz.underlying0
  a0 := Tryz.isAgg0
  z0 := Tryz.sizeOf0
  v0 := Tryz.zeroValue0
  t4 := Tryz.underlying4
  a4 := Tryz.isAgg4
  z4 := Tryz.sizeOf4
  v4 := Tryz.zeroValue4
  t23 := Tryz.underlying128
  a23 := Tryz.isAgg128
  z23 := Tryz.sizeOf128
  v23 := Tryz.zeroValue128
  t26 := Tryz.underlying3
  a26 := Tryz.isAgg3
  z26 := Tryz.sizeOf3
  v26 := Tryz.zeroValue3
  t27 := Tryz.underlying125
  a27 := Tryz.isAgg125
  z27 := Tryz.sizeOf125
  v27 := Tryz.zeroValue125
  t28 := Tryz.underlying126
  a28 := Tryz.isAgg126
  z28 := Tryz.sizeOf126
  v28 := Tryz.zeroValue126
  t33 := Tryz.underlying161
  a33 := Tryz.isAgg161
  z33 := Tryz.sizeOf161
  v33 := Tryz.zeroValue161 }
def Tryz.sortedI_ren : Go.Shelf.Ren := ⟨fun | 6 => 62 | 8 => 98 | 9 => 99 | 11 => 126 | 13 => 128 | 12 => 127 | 23 => 151 | 24 => 152 | 14 => 142 | 15 => 143 | 16 => 144 | 17 => 145 | 18 => 146 | 19 => 147 | 20 => 148 | 21 => 149 | 22 => 150 | 25 => 162 | 26 => 163 | 27 => 164 | 28 => 165 | 29 => 166 | 30 => 167 | 31 => 172 | n => n, fun | 26 => 3 | 28 => 126 | 24 => 31 | 0 => 0 | 3 => 3 | 37 => 211 | 48 => 50 | 50 => 240 | 4 => 4 | 40 => 233 | 39 => 232 | 45 => 114 | 5 => 5 | 9 => 9 | 51 => 248 | 55 => 252 | 57 => 259 | 58 => 260 | 33 => 161 | n => n, fun | n => n⟩
theorem Tryz.sortedI : Go.Proofs.SlLaysZI.n6 Tryz.prog Tryz.sortedI_ren := {
  mixed := by kernel_rfl
  f6 := ⟨Tryz.f62.name, by decide, Tryz.func62.trans (congrArg some (by kernel_rfl))⟩
  f8 := ⟨Tryz.f98.name, by decide, Tryz.func98.trans (congrArg some (by kernel_rfl))⟩
  f11 := ⟨Tryz.f126.name, by decide, Tryz.func126.trans (congrArg some (by kernel_rfl))⟩
  t0 := Tryz.underlying0
  a0 := Tryz.isAgg0
  z0 := Tryz.sizeOf0
  v0 := Tryz.zeroValue0
  t24 := Tryz.underlying31
  a24 := Tryz.isAgg31
  z24 := Tryz.sizeOf31
  v24 := Tryz.zeroValue31
  t26 := Tryz.underlying3
  a26 := Tryz.isAgg3
  z26 := Tryz.sizeOf3
  v26 := Tryz.zeroValue3
  t28 := Tryz.underlying126
  a28 := Tryz.isAgg126
  z28 := Tryz.sizeOf126
  v28 := Tryz.zeroValue126
  i26 := by kernel_rfl }
def Tryz.sortI_ren : Go.Shelf.Ren := ⟨fun | 5 => 99 | 8 => 128 | 7 => 127 | 19 => 151 | 20 => 152 | 10 => 142 | 11 => 143 | 12 => 144 | 13 => 145 | 14 => 146 | 15 => 147 | 16 => 148 | 17 => 149 | 18 => 150 | 30 => 162 | 31 => 163 | 32 => 164 | 33 => 165 | 34 => 166 | 35 => 167 | 40 => 172 | n => n, fun | 23 => 31 | 25 => 3 | 3 => 3 | 32 => 211 | 22 => 31 | 0 => 0 | 44 => 50 | 46 => 240 | 4 => 4 | 36 => 233 | 35 => 232 | 41 => 114 | 5 => 5 | 9 => 9 | 53 => 248 | 57 => 252 | 63 => 259 | 64 => 260 | n => n, fun | n => n⟩
theorem Tryz.sortI : Go.Proofs.SlLaysM.n5 Tryz.prog Tryz.sortI_ren := {
  mixed := by kernel_rfl
  f5 := ⟨Tryz.f99.name, by decide, Tryz.func99.trans (congrArg some (by kernel_rfl))⟩
  f7 := ⟨Tryz.f127.name, by decide, Tryz.func127.trans (congrArg some (by kernel_rfl))⟩
  f8 := Tryz.func128.trans (congrArg some (by kernel_rfl))
  f10 := ⟨Tryz.f142.name, by decide, Tryz.func142.trans (congrArg some (by kernel_rfl))⟩
  f11 := ⟨Tryz.f143.name, by decide, Tryz.func143.trans (congrArg some (by kernel_rfl))⟩
  f12 := ⟨Tryz.f144.name, by decide, Tryz.func144.trans (congrArg some (by kernel_rfl))⟩
  f13 := ⟨Tryz.f145.name, by decide, Tryz.func145.trans (congrArg some (by kernel_rfl))⟩
  f14 := ⟨Tryz.f146.name, by decide, Tryz.func146.trans (congrArg some (by kernel_rfl))⟩
  f15 := ⟨Tryz.f147.name, by decide, Tryz.func147.trans (congrArg some (by kernel_rfl))⟩
  f16 := ⟨Tryz.f148.name, by decide, Tryz.func148.trans (congrArg some (by kernel_rfl))⟩
  f17 := ⟨Tryz.f149.name, by decide, Tryz.func149.trans (congrArg some (by kernel_rfl))⟩
  f18 := ⟨Tryz.f150.name, by decide, Tryz.func150.trans (congrArg some (by kernel_rfl))⟩
  f19 := Tryz.func151.trans (congrArg some (by kernel_rfl))
  f20 := Tryz.func152.trans (congrArg some (by kernel_rfl))
  f30 := ⟨Tryz.f162.name, by decide, Tryz.func162.trans (congrArg some (by kernel_rfl))⟩
  f31 := Tryz.func163.trans (congrArg some (by kernel_rfl))
  f32 := Tryz.func164.trans (congrArg some (by kernel_rfl))
  f33 := ⟨Tryz.f165.name, by decide, Tryz.func165.trans (congrArg some (by kernel_rfl))⟩
  f34 := ⟨Tryz.f166.name, by decide, Tryz.func166.trans (congrArg some (by kernel_rfl))⟩
  f35 := ⟨Tryz.f167.name, by decide, Tryz.func167.trans (congrArg some (by kernel_rfl))⟩
  f40 := ⟨Tryz.f172.name, by decide, Tryz.func172.trans (congrArg some (by kernel_rfl))⟩
  t0 := Tryz.underlying0
  a0 := Tryz.isAgg0
  z0 := Tryz.sizeOf0
  v0 := Tryz.zeroValue0
  t3 := Tryz.underlying3
  a3 := Tryz.isAgg3
  z3 := Tryz.sizeOf3
  v3 := Tryz.zeroValue3
  t4 := Tryz.underlying4
  a4 := Tryz.isAgg4
  z4 := Tryz.sizeOf4
  v4 := Tryz.zeroValue4
  t5 := Tryz.underlying5
  a5 := Tryz.isAgg5
  z5 := Tryz.sizeOf5
  v5 := Tryz.zeroValue5
  t9 := Tryz.underlying9
  a9 := Tryz.isAgg9
  z9 := Tryz.sizeOf9
  v9 := Tryz.zeroValue9
  t22 := Tryz.underlying31
  a22 := Tryz.isAgg31
  z22 := Tryz.sizeOf31
  v22 := Tryz.zeroValue31
  t23 := Tryz.underlying31
  a23 := Tryz.isAgg31
  z23 := Tryz.sizeOf31
  v23 := Tryz.zeroValue31
  t25 := Tryz.underlying3
  a25 := Tryz.isAgg3
  z25 := Tryz.sizeOf3
  v25 := Tryz.zeroValue3
  t32 := Tryz.underlying211
  a32 := Tryz.isAgg211
  z32 := Tryz.sizeOf211
  v32 := Tryz.zeroValue211
  t35 := Tryz.underlying232
  a35 := Tryz.isAgg232
  z35 := Tryz.sizeOf232
  v35 := Tryz.zeroValue232
  t36 := Tryz.underlying233
  a36 := Tryz.isAgg233
  z36 := Tryz.sizeOf233
  v36 := Tryz.zeroValue233
  t41 := Tryz.underlying114
  a41 := Tryz.isAgg114
  z41 := Tryz.sizeOf114
  v41 := Tryz.zeroValue114
  t44 := Tryz.underlying50
  a44 := Tryz.isAgg50
  z44 := Tryz.sizeOf50
  v44 := Tryz.zeroValue50
  t46 := Tryz.underlying240
  a46 := Tryz.isAgg240
  z46 := Tryz.sizeOf240
  v46 := Tryz.zeroValue240
  t53 := Tryz.underlying248
  a53 := Tryz.isAgg248
  z53 := Tryz.sizeOf248
  v53 := Tryz.zeroValue248
  t57 := Tryz.underlying252
  a57 := Tryz.isAgg252
  z57 := Tryz.sizeOf252
  v57 := Tryz.zeroValue252
  t63 := Tryz.underlying259
  a63 := Tryz.isAgg259
  z63 := Tryz.sizeOf259
  v63 := Tryz.zeroValue259
  t64 := Tryz.underlying260
  a64 := Tryz.isAgg260
  z64 := Tryz.sizeOf260
  v64 := Tryz.zeroValue260 }
end Go.Proofs
namespace Go.Dyn
open Go Go.RowKit Go.Proofs Go.Maps
set_option maxRecDepth 20000
set_option maxHeartbeats 1000000
theorem setL_key (ks : List Int) : ∀ i, (setL ks i).map (·.key) = ks.map (Value.int .i64) := by
  induction ks with
  | nil => intro i; rfl
  | cons k ks ih => intro i; simp [setL, ih]
theorem setL_born (ks : List Int) : ∀ i, (setL ks i).map (·.born) = List.range' i ks.length := by
  induction ks with
  | nil => intro i; rfl
  | cons k ks ih => intro i; simp [setL, ih, List.range'_succ]
theorem setL_length (ks : List Int) (i : Nat) : (setL ks i).length = ks.length := by
  have := congrArg List.length (setL_key ks i)
  simpa using this
theorem setL_mem {ks : List Int} {x : MapEntry} : ∀ {i}, x ∈ setL ks i → ∃ k ∈ ks, x.key = .int .i64 k ∧ x.val = .bool true := by
  induction ks with
  | nil => intro i h; simp [setL] at h
  | cons k ks ih =>
    intro i h
    simp only [setL, List.mem_cons] at h
    rcases h with rfl | h
    · exact ⟨k, by simp, rfl, rfl⟩
    · obtain ⟨k', hk, h1, h2⟩ := ih h
      exact ⟨k', by simp [hk], h1, h2⟩
theorem set_owns {b : Nat} {ks : List Int} {w : World} (h : (setIt b ks).ok w) (hn : ks.Nodup) (hr : ∀ k ∈ ks, (Lit.int .i64 k).wf = true) (hl : ks.length ≤ 1000) :
    ∃ D : DataW Unit, w.ownsMap Tryz.prog 3 (plainElem Tryz.prog 4) b 1000 D ∧ Maps.size D = ks.length ∧ (intKeys D).length = ks.length := by
  have hsz : (setL ks 0).toArray.size = ks.length := by simp [setL_length]
  refine ⟨_, ⟨_, _, h, ⟨by rw [hsz]; unfold maxLen; omega, ⟨?_, ?_, ?_⟩, ?_⟩, by rw [hsz]; exact hl, rfl⟩, ?_, ?_⟩
  · intro x hx
    have h1 : x.born ∈ (setL ks 0).map (·.born) := List.mem_map.2 ⟨x, by simpa using hx, rfl⟩
    rw [setL_born] at h1
    have := List.mem_range'_1.1 h1
    omega
  · simp only [setL_born]
    exact List.nodup_range'
  · simp only [setL_key]
    exact List.Pairwise.map _ (fun a b h e => h (by injection e)) hn
  · intro x hx
    obtain ⟨k, hk, h1, h2⟩ := setL_mem (by simpa using hx)
    have hkey : keyOf Tryz.prog 3 x.key = some (.int .i64 k) := by rw [h1]; exact keyOf_int_mk Tryz.underlying3 (hr k hk)
    have hval : plainElem (H := Unit) Tryz.prog 4 x.val = some (.lit (.bool true), []) := by rw [h2]; exact plainElem_bool Tryz.underlying4 true
    exact ⟨_, by unfold WideElems.rd; rw [hkey, hval]; rfl⟩
  · rw [Maps.size_eq, length_sorted]; simp [setL_length]
  · simp only [intKeys, List.length_map, length_sorted]; simp [setL_length]
theorem maps_KeysI (b : Nat) (w : World) : Calls Tryz.prog 63 #[.map (some b)] w fun e w' => e = .returned (.func (.func 100) #[] #[.pointer (some ⟨w.heap.size, 0, none⟩)]) ∧ w' = w.alloc (.cells #[.map (some b)] 128) :=
  (callsIn_wide (n := 5)).1 (AnyZI.keys_in Tryz.keysI Fence.wide 5 trivial rfl (some b) w)
theorem sorts_I (m : Nat) : AnyZI.SortsIn Tryz.prog Tryz.sortedI_ren Fence.wide m :=
  ⟨fun blk off cap ss W hH hblk hsz => callsIn_wide.2 (AnyM.slices_Sort_int Tryz.sortI blk off cap ss W hH hblk hsz),
   fun p cap W => callsIn_wide.2 (AnyM.slices_Sort_int_none Tryz.sortI p cap W)⟩
theorem slices_SortedI {b : Nat} {ks : List Int} {w : World} (h : (setIt b ks).ok w) (hn : ks.Nodup) (hr : ∀ k ∈ ks, (Lit.int .i64 k).wf = true) (hl : ks.length ≤ 1000) :
    Calls Tryz.prog 62 #[.func (.func 100) #[] #[.pointer (some ⟨w.heap.size, 0, none⟩)]] (w.alloc (.cells #[.map (some b)] 128)) fun e w' =>
      ∃ A c xs, e = .returned (.slice A ks.length c) ∧ Chg (w.alloc (.cells #[.map (some b)] 128)) w' [] [slIt 1 3 A ks.length c xs] := by
  obtain ⟨D, hown, hD1, hD2⟩ := set_owns h hn hr hl
  have hbl := hown.lt
  have hseq : SeqGives Fence.wide 2 Tryz.prog 100 #[.pointer (some ⟨w.heap.size, 0, none⟩)] encZ (fun ss => ss.Perm (intKeys D)) (Maps.size D) (w.alloc (.cells #[.map (some b)] 128)) :=
    AnyZI.keys_gives (ρ := Tryz.keysI_ren) { Tryz.keysI with } Fence.wide _ trivial rfl (by omega) w.heap.size b 1000 D _ (by simp) (by simp) (by
      obtain ⟨es, clock, hb, Ft, hs, hD⟩ := hown
      exact ⟨es, clock, (Below.heap_alloc _ _ b hbl).trans hb, Ft, hs, hD⟩)
  have cS := AnyZI.sorted_in Tryz.sortedI Fence.wide 5 trivial trivial trivial trivial rfl (by omega) (sorts_I _) (enters_of Tryz.func99 (by kernel_rfl) rfl) 100 #[.pointer (some ⟨w.heap.size, 0, none⟩)] trivial (enters_of Tryz.func100 (by kernel_rfl) rfl) _ _ (by rw [hD1]; unfold maxLen; omega) (by rw [hD1]; omega) _ hseq
  change CallsIn _ _ Tryz.prog 62 _ _ _ at cS
  refine ((callsIn_wide (n := 5)).1 cS).mono ?_
  rintro e w' ⟨v, ss, rfl, hS, hrow, hnil, hb⟩
  have hlen : ss.length = ks.length := by rw [hS.length_eq, hD2]
  rw [hlen] at hrow
  have hfull := hrow
  obtain ⟨h1, h2⟩ := hrow
  generalize (ss.mergeSort fun x y => decide (x ≤ y)).map encZ = xs at *
  obtain ⟨A, c, rfl⟩ : ∃ A c, v = .slice A ks.length c := by
    rcases h2 with ⟨rfl, h0⟩ | ⟨g, cap, cur, rfl, _⟩
    · rw [h0]; exact ⟨_, _, rfl⟩
    · exact ⟨_, _, rfl⟩
  refine ⟨A, c, xs, rfl, ?_⟩
  have hc := Chg.of_below hb
  refine ⟨hc.os, hc.tape, hc.output, hc.size, hc.frame, fun it hi => ?_, fun it hi i hk => ?_, ?_⟩
  · have : it = _ := List.mem_singleton.1 hi
    subst this
    refine ⟨h1, ?_⟩
    rcases h2 with h2 | ⟨g, cap, cur, e, hg, r⟩
    · exact .inl h2
    · exact .inr ⟨g, cap, cur, e, Nat.zero_le _, r⟩
  · have : it = _ := List.mem_singleton.1 hi
    subst this
    rcases h2 with ⟨e, _⟩ | ⟨g, cap, cur, e, hg, _⟩
    · rw [show A = none by injection e] at hk
      simp [slIt, Value.ownBlock] at hk
    · injection e with e1
      rw [e1] at hk
      have : i = g := by simpa [slIt, Value.ownBlock] using hk
      exact .inr (by omega)
  · simp only [List.flatMap_cons, List.flatMap_nil, List.append_nil, slIt]
    cases (Value.slice A ks.length c).ownBlock <;> simp
end Go.Dyn
namespace Go.Dyn
open Go Go.RowKit Go.Proofs
set_option maxRecDepth 20000
set_option maxHeartbeats 1000000
def Ext (T : Nat → Option Nd) (st : LkS) (r : Nat × LkS) : Prop := r.2.met.Nodup ∧ (r.1 = 0 → ∀ i ∈ r.2.met, i ∈ st.met ∨ (T i).isSome = true)
theorem lookK_ext {T : Nat → Option Nd} {g : Nat → Nat → Nat → LkS → Nat × LkS} (hg : ∀ k a b st, st.met.Nodup → Ext T st (g k a b st)) : ∀ (l : List (Nat × Nat × Nat)) (st : LkS), st.met.Nodup → Ext T st (lookK g l st)
  | [], st, h => ⟨h, fun _ i hi => .inl hi⟩
  | (k, a, b) :: l, st, h => by
    have h1 := hg k a b st h
    simp only [lookK]
    split
    · rename_i h0
      have h2 := lookK_ext hg l _ h1.1
      refine ⟨h2.1, fun h3 i hi => ?_⟩
      rcases h2.2 h3 i hi with h4 | h4
      · exact h1.2 h0 i h4
      · exact .inr h4
    · exact h1
theorem lookP_ext {T : Nat → Option Nd} {U : Nat → Bool} : ∀ (f i a b : Nat) (st : LkS), st.met.Nodup → Ext T st (lookP T U f i a b st)
  | 0, i, a, b, st, h => ⟨h, fun h0 => absurd h0 (by simp [lookP])⟩
  | f + 1, i, a, b, st, h => by
    simp only [lookP]
    split
    · exact ⟨h, fun h0 => absurd h0 (by simp)⟩
    · rename_i hm
      have hnd : (st.met ++ [i]).Nodup := List.nodup_append.2 ⟨h, by simp, fun x hx y hy e => hm (by rw [List.mem_singleton.1 hy] at e; exact e ▸ hx)⟩
      cases hT : T i with
      | none => exact ⟨hnd, fun h0 => absurd h0 (by simp)⟩
      | some n =>
        simp only
        have hext : ∀ j ∈ st.met ++ [i], j ∈ st.met ∨ (T j).isSome = true := fun j hj => by
          rcases List.mem_append.1 hj with hj | hj
          · exact .inl hj
          · rw [List.mem_singleton.1 hj, hT]; exact .inr rfl
        split
        · exact ⟨hnd, fun h0 => absurd h0 (by simp)⟩
        · split
          · split
            · exact ⟨hnd, fun h0 => absurd h0 (by simp)⟩
            · exact ⟨hnd, fun _ => hext⟩
          · have h2 := lookK_ext (T := T) (g := lookP T U f) (fun k a b st h => lookP_ext f k a b st h) (kidsL n a b) ⟨st.met ++ [i], st.lvl⟩ hnd
            refine ⟨h2.1, fun h3 j hj => ?_⟩
            rcases h2.2 h3 j hj with h4 | h4
            · exact hext j h4
            · exact .inr h4
theorem looked_ext (T : Nat → Option Nd) (U : Nat → Bool) (root : Nat) : (looked T U root).2.met.Nodup ∧ ((looked T U root).1 = 0 → ∀ i ∈ (looked T U root).2.met, (T i).isSome = true) := by
  unfold looked
  split
  · exact ⟨List.nodup_nil, fun _ i hi => by cases hi⟩
  · have := lookP_ext (T := T) (U := U) 12 root 0 4294967296 ⟨[], 0⟩ List.nodup_nil
    refine ⟨this.1, fun h i hi => (this.2 h i hi).resolve_left (by simp)⟩
theorem nodup_len : ∀ (n : Nat) {l : List Nat}, l.Nodup → (∀ i ∈ l, i < n) → l.length ≤ n
  | 0, l, _, hb => by
    cases l with
    | nil => simp
    | cons x l => exact absurd (hb x (by simp)) (by omega)
  | n + 1, l, h, hb => by
    have h1 := nodup_len n (l := l.erase n) (h.erase n) (fun i hi => by
      rw [h.mem_erase_iff] at hi
      have := hb i hi.2
      omega)
    have h2 := List.length_erase (a := n) (l := l)
    split at h2 <;> omega
theorem nodup_240 {l : List Nat} (h : l.Nodup) (hb : ∀ i ∈ l, i < 240) : l.length ≤ 240 := nodup_len 240 h hb
def pagesN (r : Nat × LkS) : Nat := if r.1 = 0 then r.2.met.length else 0
theorem check_Pages {p d bf c root : Nat} {A : Option Addr} {X : Pgr} {T : Nat → Option Nd} {w : World} (hO : Own w (pagerL p d bf A c X)) (hX : X.fit) (hT : View X T) :
    Calls Tryz.prog 19 #[ptr p, .int .i64 (root : Int)] w fun e w' => ∃ B g be, e = .returned (.tuple #[.slice B (pagesN (looked T X.used.has root)) g, errV (looked T X.used.has root).1 be]) ∧ Chg w w' [] (errL (looked T X.used.has root).1 be) := by
  have HL := Lib.hid (check_looked (root := root) hO hX hT)
  obtain ⟨hx1, hx2⟩ := looked_ext T X.used.has root
  have hx3 : (looked T X.used.has root).1 = 0 → ∀ i ∈ (looked T X.used.has root).2.met, i < 240 := fun h i hi => by
    have h1 := hx2 h i hi
    cases hq : T i with
    | none => rw [hq] at h1; cases h1
    | some n => have := ((hT i).1 n hq).1; have := hX.high; omega
  clear hx2
  unfold pagesN
  generalize looked T X.used.has root = r at *
  clear hO hX hT
  by_cases he : r.1 = 0
  · have hlt := hx3 he
    have hlen := nodup_240 hx1 hlt
    have hml : (mI r.2.met).length = r.2.met.length := by simp [mI]
    have HS : Hid (∀ (b : Nat) (w : World), (setIt b (mI r.2.met)).ok w → Calls Tryz.prog 62 #[.func (.func 100) #[] #[.pointer (some ⟨w.heap.size, 0, none⟩)]] (w.alloc (.cells #[.map (some b)] 128)) fun e w' => ∃ A c xs, e = .returned (.slice A r.2.met.length c) ∧ Chg (w.alloc (.cells #[.map (some b)] 128)) w' [] [slIt 1 3 A r.2.met.length c xs]) := Lib.hid (fun b w h => by
      have := slices_SortedI h (List.Pairwise.map _ (fun a b h e => h (by omega)) hx1) (fun k hk => by
        obtain ⟨x, hx, rfl⟩ := List.mem_map.1 hk
        have := hlt x hx
        have h2 : (Lit.int .i64 (x : Int)).wf = (decide (-9223372036854775808 ≤ (x : Int)) && decide ((x : Int) ≤ 9223372036854775807)) := rfl
        rw [h2]
        simp
        omega) (by rw [hml]; omega)
      rw [hml] at this
      exact this)
    have HK := Lib.hid maps_KeysI
    rw [if_pos he]
    rw [he] at HL
    rw [he]
    clear he hx3 hx1 hlt hml
    generalize r.2.met.length = n at *
    generalize mI r.2.met = ms at *
    go_enter Tryz.func19, Tryz.ntmps19
    go_wp2_with (first | (go_at_call 61; refine HL.out.mono ?_; rintro e w1 ⟨l, bm, be, rfl, hS1⟩; rw [errV0]) | ((first | (guard_target = wpList _ _ _ (Oper.mk _ (Op.load 128 _) _ _ _ none :: _) _ _) | (guard_target = wpList _ _ _ (Oper.mk _ (Op.load 128 _) _ _ _ (some _) :: _) _ _; (fail_if_success (fail_if_success go_big_want)); refine wl_unguard rfl ?_)); refine wl_load1_0 hS1 rfl rfl rfl rfl ?_) | (go_at_call 63; refine (HK.out _ _).mono ?_; rintro e w2 ⟨rfl, rfl⟩; have hS2 := hS1.alloc #[.map (some bm)] 128) | (go_at_call 62; refine (HS.out _ _ (hS1.get 1 rfl)).mono ?_; rintro e w3 ⟨B, g, xs, rfl, hE⟩; have hS3 := hS2.pure hE))
    go_ret2
    exact ⟨B, g, 0, rfl, hS3.forget⟩
  · have HV : Hid (∀ be, errV r.1 be = .iface 150 (ptr be)) := Lib.hid (fun be => by unfold errV; rw [if_neg he])
    rw [if_neg he]
    clear he hx3 hx1
    go_enter Tryz.func19, Tryz.ntmps19
    go_wp2_with (first | (go_at_call 61; refine HL.out.mono ?_; rintro e w1 ⟨l, bm, be, rfl, hS1⟩; rw [HV.out]))
    go_ret2
    exact ⟨none, 0, be, by rw [HV.out]; rfl, by have := hS1.tail.tail; rwa [List.append_nil] at this⟩
def wholeE (X : Pgr) (r : Nat × LkS) : Nat := if r.1 = 0 then (if X.used.count = r.2.met.length then 0 else 2) else r.1
theorem check_Whole {p d bf c : Nat} {A : Option Addr} {X : Pgr} {T : Nat → Option Nd} {w : World} (hO : Own w (pagerL p d bf A c X)) (hX : X.fit) (hT : View X T) :
    Calls Tryz.prog 22 #[ptr p] w fun e w' => ∃ be, e = .returned (errV (wholeE X (looked T X.used.has X.s.root)) be) ∧ Chg w w' [] (errL (wholeE X (looked T X.used.has X.s.root)) be) := by
  have hS0 := Chg.nil w []
  have HP := Lib.hid (check_Pages (root := X.s.root) hO hX hT)
  have HR := Lib.hid (pager_Root (hO.all (blk p (pgrV d X.s X.fresh X.gone) 111) (by simp [pagerL])))
  have HU : Hid (∀ (w' : World), Own w' (pagerL p d bf A c X) → Calls Tryz.prog 27 #[ptr p] w' fun e w' => e = .returned (.agg X.used.enc) ∧ Below w'.heap.size w' w' ∨ True) := Lib.hid (fun w' hO => (pager_Used (hO.all (blk p (pgrV d X.s X.fresh X.gone) 111) (by simp [pagerL]))).mono fun _ _ _ => .inr trivial)
  have HU2 : Hid (∀ (w : World), Own w (pagerL p d bf A c X) → Calls Tryz.prog 27 #[ptr p] w fun e w' => e = .returned (.agg X.used.enc) ∧ Below w.heap.size w w') := Lib.hid (fun w hO => pager_Used (hO.all (blk p (pgrV d X.s X.fresh X.gone) 111) (by simp [pagerL])))
  have HC := Lib.hid (fun w => bits_Count X.used w)
  have HO := Lib.hid hO
  have HW := Lib.hid check_wrong
  clear HU
  unfold wholeE pagesN at *
  generalize X.s.root = root at *
  generalize looked T X.used.has root = r at *
  generalize X.used.count = cn at *
  generalize X.used.enc = ue at *
  clear hO hX hT
  generalize pagerL p d bf A c X = PL at *
  by_cases he : r.1 = 0
  · rw [if_pos he] at HP ⊢
    rw [he] at HP
    generalize r.2.met.length = n at *
    clear he
    by_cases hc : cn = n
    · rw [if_pos hc]
      have e1 : ((cn : Int) != (n : Int)) = false := by simp [hc]
      clear hc
      go_enter Tryz.func22, Tryz.ntmps22
      go_wp2_with (first | (go_at_call 29; refine HR.out.mono ?_; rintro e w' ⟨rfl, rfl⟩) | (go_at_call 19; refine HP.out.mono ?_; rintro e w1 ⟨B, g, be, rfl, hS1⟩; rw [errV0]) | (go_at_call 27; refine (HU2.out _ (HO.out.keep hS1)).mono ?_; rintro e w2 ⟨rfl, hB2⟩; have hS2 := hS1.bel hB2; clear hS1) | (go_at_call 26; refine (HC.out _).mono ?_; rintro e w3 ⟨rfl, hB3⟩; have hS3 := hS2.bel hB3; clear hS2))
      go_ret
      exact ⟨0, rfl, hS3.forget⟩
    · rw [if_neg hc]
      have e1 : ((cn : Int) != (n : Int)) = true := by simp; omega
      clear hc
      go_enter Tryz.func22, Tryz.ntmps22
      go_wp2_with (first | (go_at_call 29; refine HR.out.mono ?_; rintro e w' ⟨rfl, rfl⟩) | (go_at_call 19; refine HP.out.mono ?_; rintro e w1 ⟨B, g, be, rfl, hS1⟩; rw [errV0]) | (go_at_call 27; refine (HU2.out _ (HO.out.keep hS1)).mono ?_; rintro e w2 ⟨rfl, hB2⟩; have hS2 := hS1.bel hB2; clear hS1) | (go_at_call 26; refine (HC.out _).mono ?_; rintro e w3 ⟨rfl, hB3⟩; have hS3 := hS2.bel hB3; clear hS2) | (go_at_call 65; refine (HW.out _).mono ?_; rintro e w4 ⟨b4, rfl, hE⟩; have hS4 := hS3.forget.pure hE))
      go_ret
      exact ⟨b4, rfl, by rwa [List.append_nil] at hS4⟩
  · have HV : Hid (∀ be, errV r.1 be = .iface 150 (ptr be)) := Lib.hid (fun be => by unfold errV; rw [if_neg he])
    rw [if_neg he] at HP ⊢
    clear he
    go_enter Tryz.func22, Tryz.ntmps22
    go_wp2_with (first | (go_at_call 29; refine HR.out.mono ?_; rintro e w' ⟨rfl, rfl⟩) | (go_at_call 19; refine HP.out.mono ?_; rintro e w1 ⟨B, g, be, rfl, hS1⟩; rw [HV.out]))
    go_ret
    exact ⟨be, by rw [HV.out]; rfl, hS1⟩
end Go.Dyn
namespace Go.Dyn
open Go Go.RowKit Go.Proofs
set_option maxRecDepth 20000
set_option maxHeartbeats 1000000
theorem withinB_leaf (f m a b : Nat) (hm : 0 < m) : withinB (leafN f m) a b = (decide (a ≤ f) && decide (f + (m - 1) < b)) := by
  have h1 : (leafN f m).keys.length = m := by simp [leafN]
  have h2 : (leafN f m).keys.getD 0 0 = f := by simp [leafN, keysTo, hm]
  have h3 : (leafN f m).keys.getD (m - 1) 0 = f + (m - 1) := by simp [leafN, keysTo, show m - 1 < m by omega]
  unfold withinB
  rw [h1, h2, h3]
  simp [hm]
theorem leafN_len (f m : Nat) : (leafN f m).keys.length = m := by simp [leafN]
theorem leafN_kids (f m : Nat) : (leafN f m).kids = [] := rfl
def node2 (key k1 k2 : Nat) : Nd := ⟨[key], [], [k1, k2]⟩
theorem node2_right {key k1 k2 : Nat} (hk : key < 4294967296) (h1 : 2 ≤ k1 ∧ k1 < 240) (h2 : 2 ≤ k2 ∧ k2 < 240) (h12 : k1 ≠ k2) : (node2 key k1 k2).right :=
  ⟨⟨by simpa [node2] using hk, by simp [node2], by simp [node2]⟩, .inr ⟨rfl, by simp [node2], rfl, by simp [node2]; omega, by simp [node2, h12]⟩⟩
theorem node2_kidsL (key k1 k2 a b : Nat) : kidsL (node2 key k1 k2) a b = [(k1, a, key), (k2, key, b)] := by simp [kidsL, node2, edges, List.range_succ]
theorem node2_within (key k1 k2 : Nat) (hk : key < 4294967296) : withinB (node2 key k1 k2) 0 4294967296 = true := by simp [withinB, node2, hk]
/-- A look at a root with two children. -/
theorem look2 {T : Nat → Option Nd} {U : Nat → Bool} {rt key k1 k2 : Nat} (h0 : rt ≠ 0) (hT : T rt = some (node2 key k1 k2)) (hU : U rt = true) (hk : key < 4294967296) :
    looked T U rt = lookK (lookP T U 11) [(k1, 0, key), (k2, key, 4294967296)] ⟨[rt], 0⟩ := by
  have hb : (node2 key k1 k2).bad true 1 0 4294967296 = false := by simp [Nd.bad, node2_within _ _ _ hk]
  have hl : (node2 key k1 k2).kids.length = 2 := rfl
  unfold looked
  rw [if_neg h0]
  simp only [lookP, hT, hU, List.not_mem_nil, ↓reduceIte, List.nil_append]
  rw [hb, hl, node2_kidsL]
  simp
theorem lookP_leaf {T : Nat → Option Nd} {U : Nat → Bool} {i a b f m : Nat} {st : LkS} (hT : T i = some (leafN f m)) (hU : U i = true) (hm : i ∉ st.met) (h3 : 3 ≤ m) (ha : a ≤ f) (hb : f + (m - 1) < b) (hl : st.lvl = 0 ∨ st.lvl = 2) :
    lookP T U 11 i a b st = (0, ⟨st.met ++ [i], 2⟩) := by
  have hbad : (leafN f m).bad true 2 a b = false := by simp [Nd.bad, withinB_leaf _ _ _ _ (show 0 < m by omega), ha, hb, leafN_len, h3]
  have hlv : ¬ (st.lvl ≠ 0 ∧ st.lvl ≠ 2) := by omega
  simp only [lookP, hT, hU, hm, ↓reduceIte, hbad, leafN_kids, List.length_nil]
  simp
  omega
theorem lookP_leaf_bad {T : Nat → Option Nd} {U : Nat → Bool} {i a b f m : Nat} {st : LkS} (hT : T i = some (leafN f m)) (hU : U i = true) (hm : i ∉ st.met) (h0 : 0 < m) (h : ¬ (3 ≤ m ∧ a ≤ f ∧ f + (m - 1) < b)) :
    (lookP T U 11 i a b st).1 = 2 := by
  have hbad : (leafN f m).bad true 2 a b = true := by
    simp only [Nd.bad, withinB_leaf _ _ _ _ h0, leafN_len]
    simp
    omega
  simp only [lookP, hT, hU, hm, ↓reduceIte, hbad]
theorem lookP_none {T : Nat → Option Nd} {U : Nat → Bool} {i a b : Nat} {st : LkS} (hT : T i = none) (hm : i ∉ st.met) : (lookP T U 11 i a b st).1 = 4 := by
  simp only [lookP, hT, hm, ↓reduceIte]
theorem lookK2 {g : Nat → Nat → Nat → LkS → Nat × LkS} {x y : Nat × Nat × Nat} {st : LkS} (h1 : (g x.1 x.2.1 x.2.2 st).1 = 0) (h2 : (g y.1 y.2.1 y.2.2 (g x.1 x.2.1 x.2.2 st).2).1 ≠ 0) : lookK g [x, y] st = g y.1 y.2.1 y.2.2 (g x.1 x.2.1 x.2.2 st).2 := by
  obtain ⟨x1, x2, x3⟩ := x
  obtain ⟨y1, y2, y3⟩ := y
  simp only [lookK]
  rw [if_pos h1, if_neg h2]
theorem lookK1 {g : Nat → Nat → Nat → LkS → Nat × LkS} {x y : Nat × Nat × Nat} {st : LkS} (h1 : (g x.1 x.2.1 x.2.2 st).1 ≠ 0) : lookK g [x, y] st = g x.1 x.2.1 x.2.2 st := by
  obtain ⟨x1, x2, x3⟩ := x
  simp only [lookK]
  rw [if_neg h1]
theorem look2_ok {T : Nat → Option Nd} {U : Nat → Bool} {rt key k1 k2 f1 m1 f2 m2 : Nat} (h0 : rt ≠ 0) (hT : T rt = some (node2 key k1 k2)) (hU : U rt = true) (hk : key < 4294967296)
    (hT1 : T k1 = some (leafN f1 m1)) (hU1 : U k1 = true) (hT2 : T k2 = some (leafN f2 m2)) (hU2 : U k2 = true) (e1 : k1 ≠ rt) (e2 : k2 ≠ rt) (e3 : k2 ≠ k1) (h1 : 3 ≤ m1) (h2 : 3 ≤ m2) (g1 : f1 + (m1 - 1) < key) (g2 : key ≤ f2) (g3 : f2 + (m2 - 1) < 4294967296) :
    looked T U rt = (0, ⟨[rt, k1, k2], 2⟩) := by
  rw [look2 h0 hT hU hk]
  have s1 : lookP T U 11 k1 0 key ⟨[rt], 0⟩ = (0, ⟨[rt, k1], 2⟩) := lookP_leaf hT1 hU1 (by simpa using e1) h1 (by omega) g1 (.inl rfl)
  have s2 : lookP T U 11 k2 key 4294967296 ⟨[rt, k1], 2⟩ = (0, ⟨[rt, k1, k2], 2⟩) := lookP_leaf hT2 hU2 (by simp [e2, e3]) h2 g2 g3 (.inr rfl)
  simp only [lookK, s1, s2, ↓reduceIte]
/-- The second child is wrong. -/
theorem look2_second {T : Nat → Option Nd} {U : Nat → Bool} {rt key k1 k2 f1 m1 c : Nat} (h0 : rt ≠ 0) (hT : T rt = some (node2 key k1 k2)) (hU : U rt = true) (hk : key < 4294967296)
    (hT1 : T k1 = some (leafN f1 m1)) (hU1 : U k1 = true) (e1 : k1 ≠ rt) (h1 : 3 ≤ m1) (g1 : f1 + (m1 - 1) < key) (hc : c ≠ 0) (h2 : (lookP T U 11 k2 key 4294967296 ⟨[rt, k1], 2⟩).1 = c) : (looked T U rt).1 = c := by
  rw [look2 h0 hT hU hk]
  have s1 : lookP T U 11 k1 0 key ⟨[rt], 0⟩ = (0, ⟨[rt, k1], 2⟩) := lookP_leaf hT1 hU1 (by simpa using e1) h1 (by omega) g1 (.inl rfl)
  rw [lookK2 (by simp only [s1]) (by simp only [s1, h2]; exact hc)]
  simp only [s1, h2]
theorem look2_first {T : Nat → Option Nd} {U : Nat → Bool} {rt key k1 k2 f1 m1 : Nat} (h0 : rt ≠ 0) (hT : T rt = some (node2 key k1 k2)) (hU : U rt = true) (hk : key < 4294967296)
    (hT1 : T k1 = some (leafN f1 m1)) (hU1 : U k1 = true) (e1 : k1 ≠ rt) (h1 : 0 < m1) (g1 : ¬ f1 + (m1 - 1) < key) : (looked T U rt).1 = 2 := by
  rw [look2 h0 hT hU hk]
  have s1 : (lookP T U 11 k1 0 key ⟨[rt], 0⟩).1 = 2 := lookP_leaf_bad hT1 hU1 (by simpa using e1) h1 (by omega)
  rw [lookK1 (by simp only [s1]; omega)]
  exact s1
end Go.Dyn
namespace Go.Dyn
open Go Go.RowKit Go.Proofs
set_option maxRecDepth 20000
set_option maxHeartbeats 1000000
theorem pager_Load_nil (i : Int) (w : World) : Calls Tryz.prog 107 #[.pointer none, .int .i64 i] w fun e w' => ∃ b, e = .returned (.tuple #[.string ⟨#[]⟩, .iface 150 (ptr b)]) ∧ Chg w w' [] (errL 9 b) := by
  go_enter Tryz.func107, Tryz.ntmps107
  go_wp2_with (first | (go_at_call 54; refine (pager_none_nil _).mono ?_; rintro e w1 ⟨b, rfl, hE⟩))
  go_ret2
  exact ⟨b, rfl, hE⟩
theorem page_nil {l bm i : Nat} {w0 w : World} (hS : Chg w0 w [] [blk l #[.pointer none, .map (some bm), .int .i64 0] 130, setIt bm []]) :
    Calls Tryz.prog 97 #[ptr l, .int .i64 (i : Int), .int .i64 1, .int .i64 0, .int .i64 4294967296] w fun e w' => ∃ be, e = .returned (errV 9 be) ∧ Chg w0 w' [] (errL 9 be) := by
  go_enter Tryz.func97, Tryz.ntmps97
  go_wp2_with (first | ((first | (guard_target = wpList _ _ _ (Oper.mk _ (Op.load 128 _) _ _ _ none :: _) _ _) | (guard_target = wpList _ _ _ (Oper.mk _ (Op.load 128 _) _ _ _ (some _) :: _) _ _; (fail_if_success (fail_if_success go_big_want)); refine wl_unguard rfl ?_)); refine wl_load1_0 ‹Chg _ _ _ _› rfl rfl rfl rfl ?_) | (guard_target = wpList _ _ _ (Oper.mk _ (Op.lookup _ _ _ _) _ _ _ none :: _) _ _; refine wl_lookupSet (v := false) rfl rfl rfl rfl (hS.get 1 rfl) (by simp) ?_) | (guard_target = wpList _ _ _ (Oper.mk _ (Op.mapUpdate _ _ _ _) _ _ _ none :: _) _ _; refine wl_updateSet 1 hS rfl rfl rfl rfl rfl rfl rfl (by simp) ?_; intro w1 hS1; clear hS) | ((first | (guard_target = wpList _ _ _ (Oper.mk _ (Op.load 28 _) _ _ _ none :: _) _ _) | (guard_target = wpList _ _ _ (Oper.mk _ (Op.load 28 _) _ _ _ (some _) :: _) _ _; (fail_if_success (fail_if_success go_big_want)); refine wl_unguard rfl ?_)); refine wl_load1_1 hS1 rfl rfl rfl rfl ?_) | (go_at_call 107; refine (pager_Load_nil _ _).mono ?_; rintro e w3 ⟨be, rfl, hE⟩; have hS3 := hS1.forget.pure hE; clear hS1))
  go_ret
  exact ⟨be, rfl, by rwa [List.append_nil] at hS3⟩
theorem looked_nil (i : Nat) (h0 : i ≠ 0) (w : World) : Calls Tryz.prog 61 #[.pointer none, .int .i64 (i : Int)] w fun e w' => ∃ l be, e = .returned (.tuple #[ptr l, errV 9 be]) ∧ Chg w w' [] (errL 9 be) := by
  have hS0 := Chg.nil w []
  have e1 : ((i : Int) == 0) = false := by simp; omega
  have HP := Lib.hid (fun (l bm : Nat) (w' : World) (hS : Chg w w' [] [blk l #[.pointer none, .map (some bm), .int .i64 0] 130, setIt bm []]) => page_nil (i := i) hS)
  go_enter Tryz.func61, Tryz.ntmps61
  go_wp2_with (first | (guard_target = wpList _ _ _ (Oper.mk _ (Op.makeMap _ _) _ _ _ none :: _) _ _; refine wl_makeSet hS0 rfl rfl ?_; intro bm w1 hS1; clear hS0) | (guard_target = wpList _ _ _ (Oper.mk _ (Op.build _ _) _ _ _ none :: _) _ _; refine wl_build2 (cells := #[.pointer none, .map (some bm), .int .i64 0]) rfl rfl rfl rfl rfl ?_) | (guard_target = wpList _ _ _ (Oper.mk _ (Op.box _ _) _ _ _ none :: _) _ _; refine wl_box_agg rfl hS1 rfl rfl rfl ?_; intro l w2 hS2; clear hS1) | (go_at_call 97; refine (HP.out _ _ _ hS2).mono ?_; rintro e w3 ⟨be, rfl, hS3⟩; clear hS2))
  go_ret2
  exact ⟨l, be, rfl, hS3⟩
theorem Sound_nil (i : Nat) (h0 : i ≠ 0) (w : World) : Calls Tryz.prog 18 #[.pointer none, .int .i64 (i : Int)] w fun e w' => ∃ be, e = .returned (errV 9 be) ∧ Chg w w' [] (errL 9 be) := by
  have HL := Lib.hid (looked_nil i h0 w)
  go_enter Tryz.func18, Tryz.ntmps18
  go_wp2_with (go_at_call 61; refine HL.out.mono ?_; rintro e w1 ⟨l, be, rfl, hS1⟩)
  go_ret
  exact ⟨be, rfl, hS1⟩
end Go.Dyn
