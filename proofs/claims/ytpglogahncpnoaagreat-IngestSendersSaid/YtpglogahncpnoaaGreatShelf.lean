/-
  DERIVED: THE SHELF's CONTRACTS AT THIS DUMP, IN PLAIN WORDS (tools/lay-plain.mjs out of 'Tr4zShelfX.lean', which tools/lay-shelf.mjs wrote): THE SAME DECLARATIONS UNDER THE SAME NAMES: 'import', 'namespace', 'open', 'def', 'theorem' AND NOTHING ELSE: no command of the shelf's: FOR A HAND-IN. Each laying: the table of numbers ('.._ren') and one theorem, a field a fact of the dump's own or the kernel's comparison; each contract: ONE APPLICATION.
-/
import Derived.Shelf.SlIter.Nil
import Derived.Shelf.SlIterI.Sorted
import Derived.Shelf.SlIterI.Keys
import Derived.Shelf.SlIterI.Collect
import Derived.Shelf.SortM.Plain
import Derived.Shelf.SortM.SortNone
import Derived.Ground.GgzProg
import Derived.Ground.SlgmProg
import Derived.Shelf.Small.Bits
import Derived.Shelf.Small.Strs
import Derived.Shelf.Small.Wraps
import Derived.Shelf.Strconv.Itoa0
import Derived.Shelf.Strings.Search1
import Derived.Shelf.Strings.Search2
import Derived.Shelf.Strings.Search3
import Derived.Shelf.LaysM
import Derived.Shelf.Strings.Shaped
import Derived.Shelf.Sort.Plain
import Derived.Ground.Names2Prog
import Derived.Shelf.Slices.SearchI
import Derived.Shelf.Slices.In.SortNone
import Derived.Test.YtpglogahncpnoaaGreatProg
namespace Go.Proofs
open Go.Shelf
def Tryz.lays106_ren : Go.Shelf.Ren := ⟨fun | 106 => 53 | 213 => 68 | 265 => 82 | n => n, fun | 9 => 9 | 3 => 3 | n => n, fun | n => n⟩
theorem Tryz.lays106 : Go.Proofs.Lays.n106 Tryz.prog Tryz.lays106_ren := {
  mixed := by kernel_rfl
  f106 := Tryz.func53.trans (congrArg some (by kernel_rfl))
  f213 := Tryz.func68.trans (congrArg some (by kernel_rfl))
  f265 := Tryz.func82.trans (congrArg some (by kernel_rfl))
  t3 := Tryz.underlying3
  a3 := Tryz.isAgg3
  z3 := Tryz.sizeOf3
  v3 := Tryz.zeroValue3
  t9 := Tryz.underlying9
  a9 := Tryz.isAgg9
  z9 := Tryz.sizeOf9
  v9 := Tryz.zeroValue9 }
open Go.RowKit in
theorem Tryz.strings_Compare (a b : ByteArray) (w : World) :
    Calls Tryz.prog 53 #[.string a, .string b] w fun e w' => e = .returned (.int .i64 (Lib.compareBytes a.data.toList b.data.toList)) ∧ w' = w := Any.strings_Compare Tryz.lays106 a b w
def Tryz.lays144_ren : Go.Shelf.Ren := ⟨fun | 144 => 74 | 143 => 86 | 219 => 108 | 217 => 119 | 225 => 120 | 224 => 121 | 267 => 122 | 266 => 125 | 314 => 126 | n => n, fun | 9 => 9 | 4 => 4 | 3 => 3 | 5 => 5 | 46 => 138 | 146 => 183 | 51 => 159 | n => n, fun | 1 => 0 | n => n⟩
theorem Tryz.lays144 : Go.Proofs.Lays.n144 Tryz.prog Tryz.lays144_ren := {
  mixed := by kernel_rfl
  f143 := Tryz.func86.trans (congrArg some (by kernel_rfl))
  f144 := Tryz.func74.trans (congrArg some (by kernel_rfl))
  f217 := Tryz.func119.trans (congrArg some (by kernel_rfl))
  f219 := Tryz.func108.trans (congrArg some (by kernel_rfl))
  f224 := Tryz.func121.trans (congrArg some (by kernel_rfl))
  f225 := Tryz.func120.trans (congrArg some (by kernel_rfl))
  f266 := Tryz.func125.trans (congrArg some (by kernel_rfl))
  f267 := Tryz.func122.trans (congrArg some (by kernel_rfl))
  f314 := Tryz.func126.trans (congrArg some (by kernel_rfl))
  t3 := Tryz.underlying3
  a3 := Tryz.isAgg3
  z3 := Tryz.sizeOf3
  v3 := Tryz.zeroValue3
  t4 := Tryz.underlying4
  a4 := Tryz.isAgg4
  z4 := Tryz.sizeOf4
  v4 := Tryz.zeroValue4
  t5 := Tryz.underlying5
  a5 := Tryz.isAgg5
  z5 := Tryz.sizeOf5
  v5 := Tryz.zeroValue5
  t9 := Tryz.underlying9
  a9 := Tryz.isAgg9
  z9 := Tryz.sizeOf9
  v9 := Tryz.zeroValue9
  t46 := Tryz.underlying138
  a46 := Tryz.isAgg138
  z46 := Tryz.sizeOf138
  v46 := Tryz.zeroValue138
  t51 := Tryz.underlying159
  a51 := Tryz.isAgg159
  z51 := Tryz.sizeOf159
  v51 := Tryz.zeroValue159
  t146 := Tryz.underlying183
  a146 := Tryz.isAgg183
  z146 := Tryz.sizeOf183
  v146 := Tryz.zeroValue183
  g1 := by kernel_rfl }
open Go.RowKit Go.Lib in
theorem Tryz.strings_Contains (s sub : ByteArray) (m : Int) (w : World) (hs : s.size < 4294967281) (hm : w.cell? ⟨0, 0, none⟩ = some (.int .i64 m)) :
    Calls Tryz.prog 74 #[.string s, .string sub] w fun e w' => e = .returned (.bool (Lib.contains s.data.toList sub.data.toList)) ∧ w' = w := Any.strings_Contains Tryz.lays144 s sub m w hs hm
def Tryz.laysM144_ren : Go.Shelf.Ren := ⟨fun | 144 => 74 | 143 => 86 | 219 => 108 | 217 => 119 | 225 => 120 | 224 => 121 | 267 => 122 | 266 => 125 | 314 => 126 | n => n, fun | 9 => 9 | 4 => 4 | 3 => 3 | 5 => 5 | 46 => 138 | 146 => 183 | 51 => 159 | n => n, fun | 1 => 0 | n => n⟩
theorem Tryz.laysM144 : Go.Proofs.LaysM.n144 Tryz.prog Tryz.laysM144_ren := {
  mixed := by kernel_rfl
  f143 := Tryz.func86.trans (congrArg some (by kernel_rfl))
  f144 := Tryz.func74.trans (congrArg some (by kernel_rfl))
  f217 := Tryz.func119.trans (congrArg some (by kernel_rfl))
  f219 := Tryz.func108.trans (congrArg some (by kernel_rfl))
  f224 := Tryz.func121.trans (congrArg some (by kernel_rfl))
  f225 := Tryz.func120.trans (congrArg some (by kernel_rfl))
  f266 := Tryz.func125.trans (congrArg some (by kernel_rfl))
  f267 := Tryz.func122.trans (congrArg some (by kernel_rfl))
  f314 := Tryz.func126.trans (congrArg some (by kernel_rfl))
  t3 := Tryz.underlying3
  a3 := Tryz.isAgg3
  z3 := Tryz.sizeOf3
  v3 := Tryz.zeroValue3
  t4 := Tryz.underlying4
  a4 := Tryz.isAgg4
  z4 := Tryz.sizeOf4
  v4 := Tryz.zeroValue4
  t5 := Tryz.underlying5
  a5 := Tryz.isAgg5
  z5 := Tryz.sizeOf5
  v5 := Tryz.zeroValue5
  t9 := Tryz.underlying9
  a9 := Tryz.isAgg9
  z9 := Tryz.sizeOf9
  v9 := Tryz.zeroValue9
  t46 := Tryz.underlying138
  a46 := Tryz.isAgg138
  z46 := Tryz.sizeOf138
  v46 := Tryz.zeroValue138
  t51 := Tryz.underlying159
  a51 := Tryz.isAgg159
  z51 := Tryz.sizeOf159
  v51 := Tryz.zeroValue159
  t146 := Tryz.underlying183
  a146 := Tryz.isAgg183
  z146 := Tryz.sizeOf183
  v146 := Tryz.zeroValue183
  g1 := by kernel_rfl
  i3 := by kernel_rfl
  i4 := by kernel_rfl
  i5 := by kernel_rfl
  i9 := by kernel_rfl
  i46 := by kernel_rfl
  i51 := by kernel_rfl
  i146 := by kernel_rfl
  m1 := by kernel_rfl
  s1_3 := fun w h => Go.Proofs.cell_of_shapedOpen_int (zero := #[.int .i64 0]) (t := 3) h (of_decide_eq_true (by kernel_rfl)) (by kernel_rfl) rfl (by kernel_rfl) (by kernel_rfl) Tryz.underlying3 }
def Tryz.lays189_ren : Go.Shelf.Ren := ⟨fun | 189 => 70 | 125 => 81 | 257 => 84 | 128 => 96 | 129 => 97 | 294 => 98 | 295 => 99 | 296 => 100 | 297 => 101 | 298 => 102 | 299 => 103 | 216 => 104 | 300 => 105 | 301 => 106 | 328 => 115 | 329 => 110 | 330 => 111 | 331 => 116 | 332 => 117 | 215 => 118 | 343 => 124 | n => n, fun | 28 => 65 | 3 => 3 | 46 => 138 | 0 => 0 | 51 => 159 | 53 => 161 | 4 => 4 | 183 => 153 | 182 => 152 | 131 => 121 | 5 => 5 | 9 => 9 | 218 => 169 | 222 => 173 | 228 => 179 | 229 => 180 | n => n, fun | n => n⟩
theorem Tryz.lays189 : Go.Proofs.Lays.n189 Tryz.prog Tryz.lays189_ren := {
  mixed := by kernel_rfl
  f125 := Tryz.func81.trans (congrArg some (by kernel_rfl))
  f128 := Tryz.func96.trans (congrArg some (by kernel_rfl))
  f129 := Tryz.func97.trans (congrArg some (by kernel_rfl))
  f189 := Tryz.func70.trans (congrArg some (by kernel_rfl))
  f215 := Tryz.func118.trans (congrArg some (by kernel_rfl))
  f216 := Tryz.func104.trans (congrArg some (by kernel_rfl))
  f257 := Tryz.func84.trans (congrArg some (by kernel_rfl))
  f294 := Tryz.func98.trans (congrArg some (by kernel_rfl))
  f295 := Tryz.func99.trans (congrArg some (by kernel_rfl))
  f296 := Tryz.func100.trans (congrArg some (by kernel_rfl))
  f297 := Tryz.func101.trans (congrArg some (by kernel_rfl))
  f298 := Tryz.func102.trans (congrArg some (by kernel_rfl))
  f299 := Tryz.func103.trans (congrArg some (by kernel_rfl))
  f300 := Tryz.func105.trans (congrArg some (by kernel_rfl))
  f301 := Tryz.func106.trans (congrArg some (by kernel_rfl))
  f328 := Tryz.func115.trans (congrArg some (by kernel_rfl))
  f329 := Tryz.func110.trans (congrArg some (by kernel_rfl))
  f330 := Tryz.func111.trans (congrArg some (by kernel_rfl))
  f331 := Tryz.func116.trans (congrArg some (by kernel_rfl))
  f332 := Tryz.func117.trans (congrArg some (by kernel_rfl))
  f343 := Tryz.func124.trans (congrArg some (by kernel_rfl))
  t0 := Tryz.underlying0
  a0 := Tryz.isAgg0
  z0 := Tryz.sizeOf0
  v0 := Tryz.zeroValue0
  t3 := Tryz.underlying3
  a3 := Tryz.isAgg3
  z3 := Tryz.sizeOf3
  v3 := Tryz.zeroValue3
  t4 := Tryz.underlying4
  a4 := Tryz.isAgg4
  z4 := Tryz.sizeOf4
  v4 := Tryz.zeroValue4
  t5 := Tryz.underlying5
  a5 := Tryz.isAgg5
  z5 := Tryz.sizeOf5
  v5 := Tryz.zeroValue5
  t9 := Tryz.underlying9
  a9 := Tryz.isAgg9
  z9 := Tryz.sizeOf9
  v9 := Tryz.zeroValue9
  t28 := Tryz.underlying65
  a28 := Tryz.isAgg65
  z28 := Tryz.sizeOf65
  v28 := Tryz.zeroValue65
  t46 := Tryz.underlying138
  a46 := Tryz.isAgg138
  z46 := Tryz.sizeOf138
  v46 := Tryz.zeroValue138
  t51 := Tryz.underlying159
  a51 := Tryz.isAgg159
  z51 := Tryz.sizeOf159
  v51 := Tryz.zeroValue159
  t53 := Tryz.underlying161
  a53 := Tryz.isAgg161
  z53 := Tryz.sizeOf161
  v53 := Tryz.zeroValue161
  t131 := Tryz.underlying121
  a131 := Tryz.isAgg121
  z131 := Tryz.sizeOf121
  v131 := Tryz.zeroValue121
  t182 := Tryz.underlying152
  a182 := Tryz.isAgg152
  z182 := Tryz.sizeOf152
  v182 := Tryz.zeroValue152
  t183 := Tryz.underlying153
  a183 := Tryz.isAgg153
  z183 := Tryz.sizeOf153
  v183 := Tryz.zeroValue153
  t218 := Tryz.underlying169
  a218 := Tryz.isAgg169
  z218 := Tryz.sizeOf169
  v218 := Tryz.zeroValue169
  t222 := Tryz.underlying173
  a222 := Tryz.isAgg173
  z222 := Tryz.sizeOf173
  v222 := Tryz.zeroValue173
  t228 := Tryz.underlying179
  a228 := Tryz.isAgg179
  z228 := Tryz.sizeOf179
  v228 := Tryz.zeroValue179
  t229 := Tryz.underlying180
  a229 := Tryz.isAgg180
  z229 := Tryz.sizeOf180
  v229 := Tryz.zeroValue180 }
open Go.Sort Go.RowKit in
theorem Tryz.slices_Sort_int (blk off cap : Nat) (zs : List Int) (w : World) (hH : Holds (Value.int .i64) w blk off zs.toArray) (hblk : blk < w.heap.size) (hsz : zs.length < 4611686018427387904) :
    Calls Tryz.prog 70 #[.slice (some ⟨blk, off, none⟩) zs.length cap] w fun e w' =>
      e = .returned (.tuple #[]) ∧ ∃ n os, w' = grow (putRow (Value.int .i64) (Sort.ahead w n) blk off (zs.mergeSort fun x y => decide (x ≤ y)).toArray) os := Any.slices_Sort_int Tryz.lays189 blk off cap zs w hH hblk hsz
open Go.RowKit Go.Sort in
theorem Tryz.slices_Sort_int_none (p : Option Addr) (cap : Nat) (w : World) :
    Calls Tryz.prog 70 #[.slice p 0 cap] w fun e w' => e = .returned (.tuple #[]) ∧ w' = w := Any.slices_Sort_int_none Tryz.lays189 p cap w
def Tryz.keys41_ren : Go.Shelf.Ren := ⟨fun | 7 => 50 | 10 => 67 | n => n, fun | 23 => 115 | 26 => 9 | 3 => 4 | 28 => 119 | 0 => 0 | 27 => 118 | 33 => 101 | 4 => 4 | n => n, fun | n => n⟩
theorem Tryz.keys41 : Go.Proofs.SlLaysZ.n7 Tryz.prog Tryz.keys41_ren := {
  mixed := by kernel_rfl
  f7 := ⟨Tryz.f50.name, by decide, Tryz.func50.trans (congrArg some (by kernel_rfl))⟩
  f10 := ⟨Tryz.f67.name, by decide, Tryz.func67.trans (congrArg some (by kernel_rfl))⟩
  t0 := Tryz.underlying0
  a0 := Tryz.isAgg0
  z0 := Tryz.sizeOf0
  v0 := Tryz.zeroValue0
  t4 := Tryz.underlying4
  a4 := Tryz.isAgg4
  z4 := Tryz.sizeOf4
  v4 := Tryz.zeroValue4
  t23 := Tryz.underlying115
  a23 := Tryz.isAgg115
  z23 := Tryz.sizeOf115
  v23 := Tryz.zeroValue115
  t26 := Tryz.underlying9
  a26 := Tryz.isAgg9
  z26 := Tryz.sizeOf9
  v26 := Tryz.zeroValue9
  t27 := Tryz.underlying118
  a27 := Tryz.isAgg118
  z27 := Tryz.sizeOf118
  v27 := Tryz.zeroValue118
  t28 := Tryz.underlying119
  a28 := Tryz.isAgg119
  z28 := Tryz.sizeOf119
  v28 := Tryz.zeroValue119
  t33 := Tryz.underlying101
  a33 := Tryz.isAgg101
  z33 := Tryz.sizeOf101
  v33 := Tryz.zeroValue101 }
def Tryz.sorted40_ren : Go.Shelf.Ren := ⟨fun | 6 => 49 | 8 => 65 | 9 => 66 | 11 => 79 | 13 => 81 | 12 => 80 | 23 => 96 | 24 => 97 | 14 => 87 | 15 => 88 | 16 => 89 | 17 => 90 | 18 => 91 | 19 => 92 | 20 => 93 | 21 => 94 | 22 => 95 | 25 => 109 | 26 => 110 | 27 => 111 | 28 => 112 | 29 => 113 | 30 => 114 | 31 => 123 | n => n, fun | 26 => 9 | 28 => 119 | 24 => 116 | 0 => 0 | 3 => 3 | 37 => 138 | 48 => 159 | 50 => 161 | 4 => 4 | 40 => 153 | 39 => 152 | 45 => 121 | 5 => 5 | 9 => 9 | 51 => 169 | 55 => 173 | 57 => 179 | 58 => 180 | 33 => 101 | n => n, fun | n => n⟩
theorem Tryz.sorted40 : Go.Proofs.SlLaysZ.n6 Tryz.prog Tryz.sorted40_ren := {
  mixed := by kernel_rfl
  f6 := ⟨Tryz.f49.name, by decide, Tryz.func49.trans (congrArg some (by kernel_rfl))⟩
  f8 := ⟨Tryz.f65.name, by decide, Tryz.func65.trans (congrArg some (by kernel_rfl))⟩
  f11 := ⟨Tryz.f79.name, by decide, Tryz.func79.trans (congrArg some (by kernel_rfl))⟩
  t0 := Tryz.underlying0
  a0 := Tryz.isAgg0
  z0 := Tryz.sizeOf0
  v0 := Tryz.zeroValue0
  t24 := Tryz.underlying116
  a24 := Tryz.isAgg116
  z24 := Tryz.sizeOf116
  v24 := Tryz.zeroValue116
  t26 := Tryz.underlying9
  a26 := Tryz.isAgg9
  z26 := Tryz.sizeOf9
  v26 := Tryz.zeroValue9
  t28 := Tryz.underlying119
  a28 := Tryz.isAgg119
  z28 := Tryz.sizeOf119
  v28 := Tryz.zeroValue119
  i26 := by kernel_rfl }
def Tryz.sort59_ren : Go.Shelf.Ren := ⟨fun | 6 => 66 | 8 => 81 | 9 => 80 | 19 => 96 | 20 => 97 | 21 => 87 | 22 => 88 | 23 => 89 | 24 => 90 | 25 => 91 | 26 => 92 | 27 => 93 | 28 => 94 | 29 => 95 | 36 => 109 | 31 => 110 | 32 => 111 | 37 => 112 | 38 => 113 | 39 => 114 | 41 => 123 | n => n, fun | 27 => 116 | 29 => 9 | 3 => 3 | 32 => 138 | 26 => 116 | 0 => 0 | 44 => 159 | 46 => 161 | 4 => 4 | 36 => 153 | 35 => 152 | 41 => 121 | 5 => 5 | 9 => 9 | 53 => 169 | 57 => 173 | 63 => 179 | 64 => 180 | n => n, fun | n => n⟩
theorem Tryz.sort59 : Go.Proofs.SlLaysM.n6 Tryz.prog Tryz.sort59_ren := {
  mixed := by kernel_rfl
  f6 := ⟨Tryz.f66.name, by decide, Tryz.func66.trans (congrArg some (by kernel_rfl))⟩
  f8 := Tryz.func81.trans (congrArg some (by kernel_rfl))
  f9 := ⟨Tryz.f80.name, by decide, Tryz.func80.trans (congrArg some (by kernel_rfl))⟩
  f19 := Tryz.func96.trans (congrArg some (by kernel_rfl))
  f20 := Tryz.func97.trans (congrArg some (by kernel_rfl))
  f21 := ⟨Tryz.f87.name, by decide, Tryz.func87.trans (congrArg some (by kernel_rfl))⟩
  f22 := ⟨Tryz.f88.name, by decide, Tryz.func88.trans (congrArg some (by kernel_rfl))⟩
  f23 := ⟨Tryz.f89.name, by decide, Tryz.func89.trans (congrArg some (by kernel_rfl))⟩
  f24 := ⟨Tryz.f90.name, by decide, Tryz.func90.trans (congrArg some (by kernel_rfl))⟩
  f25 := ⟨Tryz.f91.name, by decide, Tryz.func91.trans (congrArg some (by kernel_rfl))⟩
  f26 := ⟨Tryz.f92.name, by decide, Tryz.func92.trans (congrArg some (by kernel_rfl))⟩
  f27 := ⟨Tryz.f93.name, by decide, Tryz.func93.trans (congrArg some (by kernel_rfl))⟩
  f28 := ⟨Tryz.f94.name, by decide, Tryz.func94.trans (congrArg some (by kernel_rfl))⟩
  f29 := ⟨Tryz.f95.name, by decide, Tryz.func95.trans (congrArg some (by kernel_rfl))⟩
  f31 := Tryz.func110.trans (congrArg some (by kernel_rfl))
  f32 := Tryz.func111.trans (congrArg some (by kernel_rfl))
  f36 := ⟨Tryz.f109.name, by decide, Tryz.func109.trans (congrArg some (by kernel_rfl))⟩
  f37 := ⟨Tryz.f112.name, by decide, Tryz.func112.trans (congrArg some (by kernel_rfl))⟩
  f38 := ⟨Tryz.f113.name, by decide, Tryz.func113.trans (congrArg some (by kernel_rfl))⟩
  f39 := ⟨Tryz.f114.name, by decide, Tryz.func114.trans (congrArg some (by kernel_rfl))⟩
  f41 := ⟨Tryz.f123.name, by decide, Tryz.func123.trans (congrArg some (by kernel_rfl))⟩
  t0 := Tryz.underlying0
  a0 := Tryz.isAgg0
  z0 := Tryz.sizeOf0
  v0 := Tryz.zeroValue0
  t3 := Tryz.underlying3
  a3 := Tryz.isAgg3
  z3 := Tryz.sizeOf3
  v3 := Tryz.zeroValue3
  t4 := Tryz.underlying4
  a4 := Tryz.isAgg4
  z4 := Tryz.sizeOf4
  v4 := Tryz.zeroValue4
  t5 := Tryz.underlying5
  a5 := Tryz.isAgg5
  z5 := Tryz.sizeOf5
  v5 := Tryz.zeroValue5
  t9 := Tryz.underlying9
  a9 := Tryz.isAgg9
  z9 := Tryz.sizeOf9
  v9 := Tryz.zeroValue9
  t26 := Tryz.underlying116
  a26 := Tryz.isAgg116
  z26 := Tryz.sizeOf116
  v26 := Tryz.zeroValue116
  t27 := Tryz.underlying116
  a27 := Tryz.isAgg116
  z27 := Tryz.sizeOf116
  v27 := Tryz.zeroValue116
  t29 := Tryz.underlying9
  a29 := Tryz.isAgg9
  z29 := Tryz.sizeOf9
  v29 := Tryz.zeroValue9
  t32 := Tryz.underlying138
  a32 := Tryz.isAgg138
  z32 := Tryz.sizeOf138
  v32 := Tryz.zeroValue138
  t35 := Tryz.underlying152
  a35 := Tryz.isAgg152
  z35 := Tryz.sizeOf152
  v35 := Tryz.zeroValue152
  t36 := Tryz.underlying153
  a36 := Tryz.isAgg153
  z36 := Tryz.sizeOf153
  v36 := Tryz.zeroValue153
  t41 := Tryz.underlying121
  a41 := Tryz.isAgg121
  z41 := Tryz.sizeOf121
  v41 := Tryz.zeroValue121
  t44 := Tryz.underlying159
  a44 := Tryz.isAgg159
  z44 := Tryz.sizeOf159
  v44 := Tryz.zeroValue159
  t46 := Tryz.underlying161
  a46 := Tryz.isAgg161
  z46 := Tryz.sizeOf161
  v46 := Tryz.zeroValue161
  t53 := Tryz.underlying169
  a53 := Tryz.isAgg169
  z53 := Tryz.sizeOf169
  v53 := Tryz.zeroValue169
  t57 := Tryz.underlying173
  a57 := Tryz.isAgg173
  z57 := Tryz.sizeOf173
  v57 := Tryz.zeroValue173
  t63 := Tryz.underlying179
  a63 := Tryz.isAgg179
  z63 := Tryz.sizeOf179
  v63 := Tryz.zeroValue179
  t64 := Tryz.underlying180
  a64 := Tryz.isAgg180
  z64 := Tryz.sizeOf180
  v64 := Tryz.zeroValue180 }
def Tryz.keys32_ren : Go.Shelf.Ren := ⟨fun | 7 => 55 | 10 => 71 | n => n, fun | 23 => 125 | 26 => 3 | 3 => 4 | 28 => 128 | 0 => 0 | 27 => 127 | 33 => 140 | 4 => 4 | n => n, fun | n => n⟩
theorem Tryz.keys32 : Go.Proofs.SlLaysZI.n7 Tryz.prog Tryz.keys32_ren := {
  mixed := by kernel_rfl
  f7 := ⟨Tryz.f55.name, by decide, Tryz.func55.trans (congrArg some (by kernel_rfl))⟩
  f10 := ⟨Tryz.f71.name, by decide, Tryz.func71.trans (congrArg some (by kernel_rfl))⟩
  t0 := Tryz.underlying0
  a0 := Tryz.isAgg0
  z0 := Tryz.sizeOf0
  v0 := Tryz.zeroValue0
  t4 := Tryz.underlying4
  a4 := Tryz.isAgg4
  z4 := Tryz.sizeOf4
  v4 := Tryz.zeroValue4
  t23 := Tryz.underlying125
  a23 := Tryz.isAgg125
  z23 := Tryz.sizeOf125
  v23 := Tryz.zeroValue125
  t26 := Tryz.underlying3
  a26 := Tryz.isAgg3
  z26 := Tryz.sizeOf3
  v26 := Tryz.zeroValue3
  t27 := Tryz.underlying127
  a27 := Tryz.isAgg127
  z27 := Tryz.sizeOf127
  v27 := Tryz.zeroValue127
  t28 := Tryz.underlying128
  a28 := Tryz.isAgg128
  z28 := Tryz.sizeOf128
  v28 := Tryz.zeroValue128
  t33 := Tryz.underlying140
  a33 := Tryz.isAgg140
  z33 := Tryz.sizeOf140
  v33 := Tryz.zeroValue140 }
def Tryz.sorted31_ren : Go.Shelf.Ren := ⟨fun | 6 => 54 | 8 => 69 | 9 => 70 | 11 => 83 | 13 => 81 | 12 => 84 | 23 => 96 | 24 => 97 | 14 => 98 | 15 => 99 | 16 => 100 | 17 => 101 | 18 => 102 | 19 => 103 | 20 => 104 | 21 => 105 | 22 => 106 | 25 => 115 | 26 => 110 | 27 => 111 | 28 => 116 | 29 => 117 | 30 => 118 | 31 => 124 | n => n, fun | 26 => 3 | 28 => 128 | 24 => 65 | 0 => 0 | 3 => 3 | 37 => 138 | 48 => 159 | 50 => 161 | 4 => 4 | 40 => 153 | 39 => 152 | 45 => 121 | 5 => 5 | 9 => 9 | 51 => 169 | 55 => 173 | 57 => 179 | 58 => 180 | 33 => 140 | n => n, fun | n => n⟩
theorem Tryz.sorted31 : Go.Proofs.SlLaysZI.n6 Tryz.prog Tryz.sorted31_ren := {
  mixed := by kernel_rfl
  f6 := ⟨Tryz.f54.name, by decide, Tryz.func54.trans (congrArg some (by kernel_rfl))⟩
  f8 := ⟨Tryz.f69.name, by decide, Tryz.func69.trans (congrArg some (by kernel_rfl))⟩
  f11 := ⟨Tryz.f83.name, by decide, Tryz.func83.trans (congrArg some (by kernel_rfl))⟩
  t0 := Tryz.underlying0
  a0 := Tryz.isAgg0
  z0 := Tryz.sizeOf0
  v0 := Tryz.zeroValue0
  t24 := Tryz.underlying65
  a24 := Tryz.isAgg65
  z24 := Tryz.sizeOf65
  v24 := Tryz.zeroValue65
  t26 := Tryz.underlying3
  a26 := Tryz.isAgg3
  z26 := Tryz.sizeOf3
  v26 := Tryz.zeroValue3
  t28 := Tryz.underlying128
  a28 := Tryz.isAgg128
  z28 := Tryz.sizeOf128
  v28 := Tryz.zeroValue128
  i26 := by kernel_rfl }
end Go.Proofs
