import Derived.Shelf.Sort.Plain
import Derived.Shelf.Bits.Mul64
import Derived.Ground.Names2Prog
import Derived.Shelf.Slices.CompactI
import Derived.Shelf.Slices.Cells
import Derived.Shelf.Slices.In.SortNone
import Derived.Test.YtdlcfegnaphclaaGreatProg
/-
  DERIVED: THE SHELF's CONTRACTS AT THIS DUMP, IN PLAIN WORDS (tools/lay-plain.mjs out of 'TryzShelf.lean', which tools/lay-shelf.mjs wrote): THE SAME DECLARATIONS UNDER THE SAME NAMES: 'import', 'namespace', 'open', 'def', 'theorem' AND NOTHING ELSE: no command of the shelf's: FOR A HAND-IN. Each laying: the table of numbers ('.._ren') and one theorem, a field a fact of the dump's own or the kernel's comparison; each contract: ONE APPLICATION.
-/
namespace Go.Proofs
open Go.Shelf
def Tryz.lays189_ren : Go.Shelf.Ren := ⟨fun | 189 => 122 | 125 => 171 | 257 => 170 | 128 => 227 | 129 => 228 | 294 => 218 | 295 => 219 | 296 => 220 | 297 => 221 | 298 => 222 | 299 => 223 | 216 => 224 | 300 => 225 | 301 => 226 | 328 => 251 | 329 => 252 | 330 => 253 | 331 => 254 | 332 => 255 | 215 => 158 | 343 => 269 | n => n, fun | 28 => 28 | 3 => 3 | 46 => 60 | 0 => 0 | 51 => 153 | 53 => 59 | 4 => 4 | 183 => 328 | 182 => 327 | 131 => 53 | 5 => 5 | 9 => 9 | 218 => 354 | 222 => 358 | 228 => 373 | 229 => 263 | n => n, fun | n => n⟩
theorem Tryz.lays189 : Go.Proofs.Lays.n189 Tryz.prog Tryz.lays189_ren := {
  mixed := by kernel_rfl
  f125 := Tryz.func171.trans (congrArg some (by kernel_rfl))
  f128 := Tryz.func227.trans (congrArg some (by kernel_rfl))
  f129 := Tryz.func228.trans (congrArg some (by kernel_rfl))
  f189 := Tryz.func122.trans (congrArg some (by kernel_rfl))
  f215 := Tryz.func158.trans (congrArg some (by kernel_rfl))
  f216 := Tryz.func224.trans (congrArg some (by kernel_rfl))
  f257 := Tryz.func170.trans (congrArg some (by kernel_rfl))
  f294 := Tryz.func218.trans (congrArg some (by kernel_rfl))
  f295 := Tryz.func219.trans (congrArg some (by kernel_rfl))
  f296 := Tryz.func220.trans (congrArg some (by kernel_rfl))
  f297 := Tryz.func221.trans (congrArg some (by kernel_rfl))
  f298 := Tryz.func222.trans (congrArg some (by kernel_rfl))
  f299 := Tryz.func223.trans (congrArg some (by kernel_rfl))
  f300 := Tryz.func225.trans (congrArg some (by kernel_rfl))
  f301 := Tryz.func226.trans (congrArg some (by kernel_rfl))
  f328 := Tryz.func251.trans (congrArg some (by kernel_rfl))
  f329 := Tryz.func252.trans (congrArg some (by kernel_rfl))
  f330 := Tryz.func253.trans (congrArg some (by kernel_rfl))
  f331 := Tryz.func254.trans (congrArg some (by kernel_rfl))
  f332 := Tryz.func255.trans (congrArg some (by kernel_rfl))
  f343 := Tryz.func269.trans (congrArg some (by kernel_rfl))
  t0 := Tryz.underlying0
  a0 := Tryz.isAgg0
  z0 := Tryz.sizeOf0
  v0 := Tryz.zeroValue0
  t3 := Tryz.underlying3
  a3 := Tryz.isAgg3
  z3 := Tryz.sizeOf3
  v3 := Tryz.zeroValue3
  t4 := Tryz.underlying4
  a4 := Tryz.isAgg4
  z4 := Tryz.sizeOf4
  v4 := Tryz.zeroValue4
  t5 := Tryz.underlying5
  a5 := Tryz.isAgg5
  z5 := Tryz.sizeOf5
  v5 := Tryz.zeroValue5
  t9 := Tryz.underlying9
  a9 := Tryz.isAgg9
  z9 := Tryz.sizeOf9
  v9 := Tryz.zeroValue9
  t28 := Tryz.underlying28
  a28 := Tryz.isAgg28
  z28 := Tryz.sizeOf28
  v28 := Tryz.zeroValue28
  t46 := Tryz.underlying60
  a46 := Tryz.isAgg60
  z46 := Tryz.sizeOf60
  v46 := Tryz.zeroValue60
  t51 := Tryz.underlying153
  a51 := Tryz.isAgg153
  z51 := Tryz.sizeOf153
  v51 := Tryz.zeroValue153
  t53 := Tryz.underlying59
  a53 := Tryz.isAgg59
  z53 := Tryz.sizeOf59
  v53 := Tryz.zeroValue59
  t131 := Tryz.underlying53
  a131 := Tryz.isAgg53
  z131 := Tryz.sizeOf53
  v131 := Tryz.zeroValue53
  t182 := Tryz.underlying327
  a182 := Tryz.isAgg327
  z182 := Tryz.sizeOf327
  v182 := Tryz.zeroValue327
  t183 := Tryz.underlying328
  a183 := Tryz.isAgg328
  z183 := Tryz.sizeOf328
  v183 := Tryz.zeroValue328
  t218 := Tryz.underlying354
  a218 := Tryz.isAgg354
  z218 := Tryz.sizeOf354
  v218 := Tryz.zeroValue354
  t222 := Tryz.underlying358
  a222 := Tryz.isAgg358
  z222 := Tryz.sizeOf358
  v222 := Tryz.zeroValue358
  t228 := Tryz.underlying373
  a228 := Tryz.isAgg373
  z228 := Tryz.sizeOf373
  v228 := Tryz.zeroValue373
  t229 := Tryz.underlying263
  a229 := Tryz.isAgg263
  z229 := Tryz.sizeOf263
  v229 := Tryz.zeroValue263 }
open Go.Sort Go.RowKit in
theorem Tryz.slices_Sort_int (blk off cap : Nat) (zs : List Int) (w : World) (hH : Holds (Value.int .i64) w blk off zs.toArray) (hblk : blk < w.heap.size) (hsz : zs.length < 4611686018427387904) :
    Calls Tryz.prog 122 #[.slice (some ⟨blk, off, none⟩) zs.length cap] w fun e w' =>
      e = .returned (.tuple #[]) ∧ ∃ n os, w' = grow (putRow (Value.int .i64) (Sort.ahead w n) blk off (zs.mergeSort fun x y => decide (x ≤ y)).toArray) os := Any.slices_Sort_int Tryz.lays189 blk off cap zs w hH hblk hsz
def Tryz.laysNm220_ren : Go.Shelf.Ren := ⟨fun | 20 => 125 | n => n, fun | 22 => 28 | 3 => 3 | 4 => 4 | 0 => 0 | n => n, fun | n => n⟩
theorem Tryz.laysNm220 : Go.Proofs.Lays2.n20 Tryz.prog Tryz.laysNm220_ren := {
  mixed := by kernel_rfl
  f20 := Tryz.func125.trans (congrArg some (by kernel_rfl))
  t0 := Tryz.underlying0
  a0 := Tryz.isAgg0
  z0 := Tryz.sizeOf0
  v0 := Tryz.zeroValue0
  t3 := Tryz.underlying3
  a3 := Tryz.isAgg3
  z3 := Tryz.sizeOf3
  v3 := Tryz.zeroValue3
  t4 := Tryz.underlying4
  a4 := Tryz.isAgg4
  z4 := Tryz.sizeOf4
  v4 := Tryz.zeroValue4
  t22 := Tryz.underlying28
  a22 := Tryz.isAgg28
  z22 := Tryz.sizeOf28
  v22 := Tryz.zeroValue28
  i3 := by kernel_rfl }
open Go.RowKit Go.Lib Go.Sort in
theorem Tryz.slices_Compact_int (blk off cap : Nat) (zs : List Int) (w : World) (hH : Holds (Value.int .i64) w blk off zs.toArray) (hsz : zs.length ≤ 9223372036854775807) (hcap : zs.length ≤ cap) :
    Calls Tryz.prog 125 #[.slice (some ⟨blk, off, none⟩) zs.length cap] w fun e w' => e = .returned (.slice (some ⟨blk, off, none⟩) (Lib.compact zs).length cap) ∧ ∃ q, w' = putRow (Value.int .i64) (Sort.ahead w q) blk off (Lib.compact zs ++ List.replicate (zs.length - (Lib.compact zs).length) 0).toArray := Any.slices_Compact_int Tryz.laysNm220 blk off cap zs w hH hsz hcap
open Go.RowKit Go.Lib Go.Sort in
theorem Tryz.slices_Compact_int_empty (a : Option Addr) (cap : Nat) (w : World) :
    Calls Tryz.prog 125 #[.slice a 0 cap] w fun e w' => e = .returned (.slice a 0 cap) ∧ w' = w := Any.slices_Compact_int_empty Tryz.laysNm220 a cap w
open Go.RowKit Go.Sort in
theorem Tryz.slices_Sort_int_none (p : Option Addr) (cap : Nat) (w : World) :
    Calls Tryz.prog 122 #[.slice p 0 cap] w fun e w' => e = .returned (.tuple #[]) ∧ w' = w := Any.slices_Sort_int_none Tryz.lays189 p cap w
end Go.Proofs
