import Derived.Shelf.Small.Bits
import Derived.Shelf.Small.Wraps
import Derived.Shelf.Strconv.Itoa0
import Derived.Shelf.Sort.Plain
import Derived.Shelf.Slices.Equal
import Derived.Ground.Names2Prog
import Derived.Shelf.Slices.Clone
import Derived.Shelf.Slices.CompactI
import Derived.Shelf.Slices.SearchI
import Derived.Shelf.Slices.Cells
import Derived.Shelf.Slices.In.SortNone
import Derived.Shelf.Slices.Empties2
import Derived.Ground.SlgnProg
import Derived.Shelf.SlicesE.Clone
import Derived.Test.YtadilppdlbhjnaaProg
namespace Go.Proofs
open Go.Shelf
def Try.lays189_ren : Go.Shelf.Ren := ⟨fun | 189 => 101 | 125 => 139 | 257 => 138 | 128 => 155 | 129 => 156 | 294 => 146 | 295 => 147 | 296 => 148 | 297 => 149 | 298 => 150 | 299 => 151 | 216 => 152 | 300 => 153 | 301 => 154 | 328 => 165 | 329 => 166 | 330 => 167 | 331 => 168 | 332 => 169 | 215 => 170 | 343 => 174 | n => n, fun | 28 => 42 | 3 => 3 | 46 => 132 | 0 => 0 | 51 => 148 | 53 => 150 | 4 => 4 | 183 => 141 | 182 => 140 | 131 => 106 | 5 => 5 | 9 => 9 | 218 => 156 | 222 => 160 | 228 => 164 | 229 => 165 | n => n, fun | n => n⟩
theorem Try.lays189 : Go.Proofs.Lays.n189 Try.prog Try.lays189_ren := {
 mixed := by kernel_rfl
 f125 := Try.func139.trans (congrArg some (by kernel_rfl))
 f128 := Try.func155.trans (congrArg some (by kernel_rfl))
 f129 := Try.func156.trans (congrArg some (by kernel_rfl))
 f189 := Try.func101.trans (congrArg some (by kernel_rfl))
 f215 := Try.func170.trans (congrArg some (by kernel_rfl))
 f216 := Try.func152.trans (congrArg some (by kernel_rfl))
 f257 := Try.func138.trans (congrArg some (by kernel_rfl))
 f294 := Try.func146.trans (congrArg some (by kernel_rfl))
 f295 := Try.func147.trans (congrArg some (by kernel_rfl))
 f296 := Try.func148.trans (congrArg some (by kernel_rfl))
 f297 := Try.func149.trans (congrArg some (by kernel_rfl))
 f298 := Try.func150.trans (congrArg some (by kernel_rfl))
 f299 := Try.func151.trans (congrArg some (by kernel_rfl))
 f300 := Try.func153.trans (congrArg some (by kernel_rfl))
 f301 := Try.func154.trans (congrArg some (by kernel_rfl))
 f328 := Try.func165.trans (congrArg some (by kernel_rfl))
 f329 := Try.func166.trans (congrArg some (by kernel_rfl))
 f330 := Try.func167.trans (congrArg some (by kernel_rfl))
 f331 := Try.func168.trans (congrArg some (by kernel_rfl))
 f332 := Try.func169.trans (congrArg some (by kernel_rfl))
 f343 := Try.func174.trans (congrArg some (by kernel_rfl))
 t0 := Try.underlying0
 a0 := Try.isAgg0
 z0 := Try.sizeOf0
 v0 := Try.zeroValue0
 t3 := Try.underlying3
 a3 := Try.isAgg3
 z3 := Try.sizeOf3
 v3 := Try.zeroValue3
 t4 := Try.underlying4
 a4 := Try.isAgg4
 z4 := Try.sizeOf4
 v4 := Try.zeroValue4
 t5 := Try.underlying5
 a5 := Try.isAgg5
 z5 := Try.sizeOf5
 v5 := Try.zeroValue5
 t9 := Try.underlying9
 a9 := Try.isAgg9
 z9 := Try.sizeOf9
 v9 := Try.zeroValue9
 t28 := Try.underlying42
 a28 := Try.isAgg42
 z28 := Try.sizeOf42
 v28 := Try.zeroValue42
 t46 := Try.underlying132
 a46 := Try.isAgg132
 z46 := Try.sizeOf132
 v46 := Try.zeroValue132
 t51 := Try.underlying148
 a51 := Try.isAgg148
 z51 := Try.sizeOf148
 v51 := Try.zeroValue148
 t53 := Try.underlying150
 a53 := Try.isAgg150
 z53 := Try.sizeOf150
 v53 := Try.zeroValue150
 t131 := Try.underlying106
 a131 := Try.isAgg106
 z131 := Try.sizeOf106
 v131 := Try.zeroValue106
 t182 := Try.underlying140
 a182 := Try.isAgg140
 z182 := Try.sizeOf140
 v182 := Try.zeroValue140
 t183 := Try.underlying141
 a183 := Try.isAgg141
 z183 := Try.sizeOf141
 v183 := Try.zeroValue141
 t218 := Try.underlying156
 a218 := Try.isAgg156
 z218 := Try.sizeOf156
 v218 := Try.zeroValue156
 t222 := Try.underlying160
 a222 := Try.isAgg160
 z222 := Try.sizeOf160
 v222 := Try.zeroValue160
 t228 := Try.underlying164
 a228 := Try.isAgg164
 z228 := Try.sizeOf164
 v228 := Try.zeroValue164
 t229 := Try.underlying165
 a229 := Try.isAgg165
 z229 := Try.sizeOf165
 v229 := Try.zeroValue165 }
open Go.Sort Go.RowKit in
theorem Try.slices_Sort_int (blk off cap : Nat) (zs : List Int) (w : World) (hH : Holds (Value.int .i64) w blk off zs.toArray) (hblk : blk < w.heap.size) (hsz : zs.length < 4611686018427387904) :
 Calls Try.prog 101 #[.slice (some ⟨blk, off, none⟩) zs.length cap] w fun e w' =>
  e = .returned (.tuple #[]) ∧ ∃ n os, w' = grow (putRow (Value.int .i64) (Sort.ahead w n) blk off (zs.mergeSort fun x y => decide (x ≤ y)).toArray) os := Any.slices_Sort_int Try.lays189 blk off cap zs w hH hblk hsz
def Try.lays111_ren : Go.Shelf.Ren := ⟨fun | 111 => 104 | n => n, fun | 28 => 42 | 3 => 3 | 4 => 4 | 0 => 0 | n => n, fun | n => n⟩
theorem Try.lays111 : Go.Proofs.Lays.n111 Try.prog Try.lays111_ren := {
 mixed := by kernel_rfl
 f111 := Try.func104.trans (congrArg some (by kernel_rfl))
 t0 := Try.underlying0
 a0 := Try.isAgg0
 z0 := Try.sizeOf0
 v0 := Try.zeroValue0
 t3 := Try.underlying3
 a3 := Try.isAgg3
 z3 := Try.sizeOf3
 v3 := Try.zeroValue3
 t4 := Try.underlying4
 a4 := Try.isAgg4
 z4 := Try.sizeOf4
 v4 := Try.zeroValue4
 t28 := Try.underlying42
 a28 := Try.isAgg42
 z28 := Try.sizeOf42
 v28 := Try.zeroValue42 }
open Go.RowKit Go.Lib in
theorem Try.slices_Equal_int (b1 o1 n c b2 o2 m d : Nat) (xs ys : List Int) (w : World) (hx : n ≤ xs.length) (hy : m ≤ ys.length) (hbig : n ≤ 9223372036854775807) (hbig2 : m ≤ 9223372036854775807) (hc1 : ∀ j, j < xs.length → w.cell? ⟨b1, o1 + j, none⟩ = some (.int .i64 (xs.getD j 0))) (hc2 : ∀ j, j < ys.length → w.cell? ⟨b2, o2 + j, none⟩ = some (.int .i64 (ys.getD j 0))) :
 Calls Try.prog 104 #[.slice (some ⟨b1, o1, none⟩) n c, .slice (some ⟨b2, o2, none⟩) m d] w fun e w' => e = .returned (.bool (xs.take n == ys.take m)) ∧ ∃ q, w' = w.drewN q := Any.slices_Equal_int Try.lays111 b1 o1 n c b2 o2 m d xs ys w hx hy hbig hbig2 hc1 hc2
open Go.RowKit Go.Lib in
theorem Try.slices_Equal_int_empty (a1 a2 : Option Addr) (c m d : Nat) (w : World) (hbig2 : m ≤ 9223372036854775807) :
 Calls Try.prog 104 #[.slice a1 0 c, .slice a2 m d] w fun e w' => e = .returned (.bool (decide (m = 0))) ∧ w' = w := Any.slices_Equal_int_empty Try.lays111 a1 a2 c m d w hbig2
open Go.RowKit Go.Sort in
theorem Try.slices_Sort_int_none (p : Option Addr) (cap : Nat) (w : World) :
 Calls Try.prog 101 #[.slice p 0 cap] w fun e w' => e = .returned (.tuple #[]) ∧ w' = w := Any.slices_Sort_int_none Try.lays189 p cap w
open Go.RowKit Go.Lib in
theorem Try.slices_Equal_int_lens (a1 a2 : Option Addr) (n c m d : Nat) (w : World) (hnm : n ≠ m) :
 Calls Try.prog 104 #[.slice a1 n c, .slice a2 m d] w fun e w' => e = .returned (.bool false) ∧ w' = w := Any.slices_Equal_int_lens Try.lays111 a1 a2 n c m d w hnm
end Go.Proofs
