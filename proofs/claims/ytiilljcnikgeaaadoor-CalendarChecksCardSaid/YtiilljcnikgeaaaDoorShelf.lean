/- Contracts of library functions of the shelf at this translation, in plain words: what strconv.Itoa and strings.Repeat return. -/
import Derived.Shelf.Small.Bits
import Derived.Shelf.Strconv.Itoa0
import Derived.Shelf.Sort.Plain
import Derived.Ground.Names2Prog
import Derived.Shelf.Slices.CompactI
import Derived.Shelf.Slices.SearchI
import Derived.Shelf.Slices.In.SortNone
import Derived.Test.YtiilljcnikgeaaaDoorProg
namespace Go.Proofs
open Go.Shelf
def Tryd.lays189_ren : Go.Shelf.Ren := ⟨fun | 189 => 43 | 125 => 60 | 257 => 59 | 128 => 87 | 129 => 88 | 294 => 78 | 295 => 79 | 296 => 80 | 297 => 81 | 298 => 82 | 299 => 83 | 216 => 84 | 300 => 85 | 301 => 86 | 328 => 94 | 329 => 95 | 330 => 96 | 331 => 97 | 332 => 98 | 215 => 77 | 343 => 100 | n => n, fun | 28 => 22 | 3 => 3 | 46 => 101 | 0 => 0 | 51 => 115 | 53 => 117 | 4 => 4 | 183 => 109 | 182 => 108 | 131 => 94 | 5 => 5 | 9 => 9 | 218 => 123 | 222 => 127 | 228 => 129 | 229 => 43 | n => n, fun | n => n⟩
theorem Tryd.lays189 : Go.Proofs.Lays.n189 Tryd.prog Tryd.lays189_ren := {
  mixed := by kernel_rfl
  f125 := Tryd.func60.trans (congrArg some (by kernel_rfl))
  f128 := Tryd.func87.trans (congrArg some (by kernel_rfl))
  f129 := Tryd.func88.trans (congrArg some (by kernel_rfl))
  f189 := Tryd.func43.trans (congrArg some (by kernel_rfl))
  f215 := Tryd.func77.trans (congrArg some (by kernel_rfl))
  f216 := Tryd.func84.trans (congrArg some (by kernel_rfl))
  f257 := Tryd.func59.trans (congrArg some (by kernel_rfl))
  f294 := Tryd.func78.trans (congrArg some (by kernel_rfl))
  f295 := Tryd.func79.trans (congrArg some (by kernel_rfl))
  f296 := Tryd.func80.trans (congrArg some (by kernel_rfl))
  f297 := Tryd.func81.trans (congrArg some (by kernel_rfl))
  f298 := Tryd.func82.trans (congrArg some (by kernel_rfl))
  f299 := Tryd.func83.trans (congrArg some (by kernel_rfl))
  f300 := Tryd.func85.trans (congrArg some (by kernel_rfl))
  f301 := Tryd.func86.trans (congrArg some (by kernel_rfl))
  f328 := Tryd.func94.trans (congrArg some (by kernel_rfl))
  f329 := Tryd.func95.trans (congrArg some (by kernel_rfl))
  f330 := Tryd.func96.trans (congrArg some (by kernel_rfl))
  f331 := Tryd.func97.trans (congrArg some (by kernel_rfl))
  f332 := Tryd.func98.trans (congrArg some (by kernel_rfl))
  f343 := Tryd.func100.trans (congrArg some (by kernel_rfl))
  t0 := Tryd.underlying0
  a0 := Tryd.isAgg0
  z0 := Tryd.sizeOf0
  v0 := Tryd.zeroValue0
  t3 := Tryd.underlying3
  a3 := Tryd.isAgg3
  z3 := Tryd.sizeOf3
  v3 := Tryd.zeroValue3
  t4 := Tryd.underlying4
  a4 := Tryd.isAgg4
  z4 := Tryd.sizeOf4
  v4 := Tryd.zeroValue4
  t5 := Tryd.underlying5
  a5 := Tryd.isAgg5
  z5 := Tryd.sizeOf5
  v5 := Tryd.zeroValue5
  t9 := Tryd.underlying9
  a9 := Tryd.isAgg9
  z9 := Tryd.sizeOf9
  v9 := Tryd.zeroValue9
  t28 := Tryd.underlying22
  a28 := Tryd.isAgg22
  z28 := Tryd.sizeOf22
  v28 := Tryd.zeroValue22
  t46 := Tryd.underlying101
  a46 := Tryd.isAgg101
  z46 := Tryd.sizeOf101
  v46 := Tryd.zeroValue101
  t51 := Tryd.underlying115
  a51 := Tryd.isAgg115
  z51 := Tryd.sizeOf115
  v51 := Tryd.zeroValue115
  t53 := Tryd.underlying117
  a53 := Tryd.isAgg117
  z53 := Tryd.sizeOf117
  v53 := Tryd.zeroValue117
  t131 := Tryd.underlying94
  a131 := Tryd.isAgg94
  z131 := Tryd.sizeOf94
  v131 := Tryd.zeroValue94
  t182 := Tryd.underlying108
  a182 := Tryd.isAgg108
  z182 := Tryd.sizeOf108
  v182 := Tryd.zeroValue108
  t183 := Tryd.underlying109
  a183 := Tryd.isAgg109
  z183 := Tryd.sizeOf109
  v183 := Tryd.zeroValue109
  t218 := Tryd.underlying123
  a218 := Tryd.isAgg123
  z218 := Tryd.sizeOf123
  v218 := Tryd.zeroValue123
  t222 := Tryd.underlying127
  a222 := Tryd.isAgg127
  z222 := Tryd.sizeOf127
  v222 := Tryd.zeroValue127
  t228 := Tryd.underlying129
  a228 := Tryd.isAgg129
  z228 := Tryd.sizeOf129
  v228 := Tryd.zeroValue129
  t229 := Tryd.underlying43
  a229 := Tryd.isAgg43
  z229 := Tryd.sizeOf43
  v229 := Tryd.zeroValue43 }
open Go.Sort Go.RowKit in
theorem Tryd.slices_Sort_int (blk off cap : Nat) (zs : List Int) (w : World) (hH : Holds (Value.int .i64) w blk off zs.toArray) (hblk : blk < w.heap.size) (hsz : zs.length < 4611686018427387904) :
    Calls Tryd.prog 43 #[.slice (some ⟨blk, off, none⟩) zs.length cap] w fun e w' =>
      e = .returned (.tuple #[]) ∧ ∃ n os, w' = grow (putRow (Value.int .i64) (Sort.ahead w n) blk off (zs.mergeSort fun x y => decide (x ≤ y)).toArray) os := Any.slices_Sort_int Tryd.lays189 blk off cap zs w hH hblk hsz
def Tryd.laysNm220_ren : Go.Shelf.Ren := ⟨fun | 20 => 44 | n => n, fun | 22 => 22 | 3 => 3 | 4 => 4 | 0 => 0 | n => n, fun | n => n⟩
theorem Tryd.laysNm220 : Go.Proofs.Lays2.n20 Tryd.prog Tryd.laysNm220_ren := {
  mixed := by kernel_rfl
  f20 := Tryd.func44.trans (congrArg some (by kernel_rfl))
  t0 := Tryd.underlying0
  a0 := Tryd.isAgg0
  z0 := Tryd.sizeOf0
  v0 := Tryd.zeroValue0
  t3 := Tryd.underlying3
  a3 := Tryd.isAgg3
  z3 := Tryd.sizeOf3
  v3 := Tryd.zeroValue3
  t4 := Tryd.underlying4
  a4 := Tryd.isAgg4
  z4 := Tryd.sizeOf4
  v4 := Tryd.zeroValue4
  t22 := Tryd.underlying22
  a22 := Tryd.isAgg22
  z22 := Tryd.sizeOf22
  v22 := Tryd.zeroValue22
  i3 := by kernel_rfl }
open Go.RowKit Go.Lib Go.Sort in
theorem Tryd.slices_Compact_int_arr (blk off cap : Nat) (d : Array Int) (w : World) (hH : Holds encI w blk off d) (hsz : d.size ≤ 9223372036854775807) (hcap : d.size ≤ cap) :
    Calls Tryd.prog 44 #[.slice (some ⟨blk, off, none⟩) d.size cap] w fun e w' => e = .returned (.slice (some ⟨blk, off, none⟩) (compactUpTo d d.size).length cap) ∧ ∃ q, w' = putRow encI (Sort.ahead w q) blk off (compactUpTo d d.size ++ List.replicate (d.size - (compactUpTo d d.size).length) 0).toArray := Any.slices_Compact_int_arr Tryd.laysNm220 blk off cap d w hH hsz hcap
open Go.RowKit Go.Lib Go.Sort in
theorem Tryd.slices_Compact_int (blk off cap : Nat) (zs : List Int) (w : World) (hH : Holds (Value.int .i64) w blk off zs.toArray) (hsz : zs.length ≤ 9223372036854775807) (hcap : zs.length ≤ cap) :
    Calls Tryd.prog 44 #[.slice (some ⟨blk, off, none⟩) zs.length cap] w fun e w' => e = .returned (.slice (some ⟨blk, off, none⟩) (Lib.compact zs).length cap) ∧ ∃ q, w' = putRow (Value.int .i64) (Sort.ahead w q) blk off (Lib.compact zs ++ List.replicate (zs.length - (Lib.compact zs).length) 0).toArray := Any.slices_Compact_int Tryd.laysNm220 blk off cap zs w hH hsz hcap
open Go.RowKit Go.Lib Go.Sort in
theorem Tryd.slices_Compact_int_empty (a : Option Addr) (cap : Nat) (w : World) :
    Calls Tryd.prog 44 #[.slice a 0 cap] w fun e w' => e = .returned (.slice a 0 cap) ∧ w' = w := Any.slices_Compact_int_empty Tryd.laysNm220 a cap w
open Go.RowKit Go.Sort in
theorem Tryd.slices_Sort_int_none (p : Option Addr) (cap : Nat) (w : World) :
    Calls Tryd.prog 43 #[.slice p 0 cap] w fun e w' => e = .returned (.tuple #[]) ∧ w' = w := Any.slices_Sort_int_none Tryd.lays189 p cap w
end Go.Proofs
