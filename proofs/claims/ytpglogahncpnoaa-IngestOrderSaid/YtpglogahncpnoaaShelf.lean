/-
  DERIVED: THE SHELF's CONTRACTS AT THIS DUMP, IN PLAIN WORDS (tools/lay-plain.mjs out of 'Tr41ShelfX.lean', which tools/lay-shelf.mjs wrote): THE SAME DECLARATIONS UNDER THE SAME NAMES: 'import', 'namespace', 'open', 'def', 'theorem' AND NOTHING ELSE: no command of the shelf's: FOR A HAND-IN. Each laying: the table of numbers ('.._ren') and one theorem, a field a fact of the dump's own or the kernel's comparison; each contract: ONE APPLICATION.
-/
import Derived.Shelf.SlIter.Nil
import Derived.Shelf.SlIterI.Sorted
import Derived.Shelf.SlIterI.Keys
import Derived.Shelf.SlIterI.Collect
import Derived.Shelf.SortM.Plain
import Derived.Shelf.SortM.SortNone
import Derived.Ground.GgzProg
import Derived.Ground.SlgmProg
import Derived.Shelf.Small.Bits
import Derived.Shelf.Small.Strs
import Derived.Shelf.Small.Wraps
import Derived.Shelf.Strconv.Itoa0
import Derived.Shelf.Strings.Search1
import Derived.Shelf.Strings.Search2
import Derived.Shelf.Strings.Search3
import Derived.Shelf.LaysM
import Derived.Shelf.Strings.Shaped
import Derived.Shelf.Sort.Plain
import Derived.Ground.Names2Prog
import Derived.Shelf.Slices.SearchI
import Derived.Shelf.Slices.In.SortNone
import Derived.Test.YtpglogahncpnoaaProg
namespace Go.Proofs
open Go.Shelf
def Try.lays106_ren : Go.Shelf.Ren := ⟨fun | 106 => 30 | 213 => 49 | 265 => 64 | n => n, fun | 9 => 9 | 3 => 3 | n => n, fun | n => n⟩
theorem Try.lays106 : Go.Proofs.Lays.n106 Try.prog Try.lays106_ren := {
  mixed := by kernel_rfl
  f106 := Try.func30.trans (congrArg some (by kernel_rfl))
  f213 := Try.func49.trans (congrArg some (by kernel_rfl))
  f265 := Try.func64.trans (congrArg some (by kernel_rfl))
  t3 := Try.underlying3
  a3 := Try.isAgg3
  z3 := Try.sizeOf3
  v3 := Try.zeroValue3
  t9 := Try.underlying9
  a9 := Try.isAgg9
  z9 := Try.sizeOf9
  v9 := Try.zeroValue9 }
open Go.RowKit in
theorem Try.strings_Compare (a b : ByteArray) (w : World) :
    Calls Try.prog 30 #[.string a, .string b] w fun e w' => e = .returned (.int .i64 (Lib.compareBytes a.data.toList b.data.toList)) ∧ w' = w := Any.strings_Compare Try.lays106 a b w
def Try.lays144_ren : Go.Shelf.Ren := ⟨fun | 144 => 63 | 143 => 74 | 219 => 96 | 217 => 107 | 225 => 108 | 224 => 109 | 267 => 110 | 266 => 113 | 314 => 114 | n => n, fun | 9 => 9 | 4 => 4 | 3 => 3 | 5 => 5 | 46 => 123 | 146 => 172 | 51 => 149 | n => n, fun | 1 => 0 | n => n⟩
theorem Try.lays144 : Go.Proofs.Lays.n144 Try.prog Try.lays144_ren := {
  mixed := by kernel_rfl
  f143 := Try.func74.trans (congrArg some (by kernel_rfl))
  f144 := Try.func63.trans (congrArg some (by kernel_rfl))
  f217 := Try.func107.trans (congrArg some (by kernel_rfl))
  f219 := Try.func96.trans (congrArg some (by kernel_rfl))
  f224 := Try.func109.trans (congrArg some (by kernel_rfl))
  f225 := Try.func108.trans (congrArg some (by kernel_rfl))
  f266 := Try.func113.trans (congrArg some (by kernel_rfl))
  f267 := Try.func110.trans (congrArg some (by kernel_rfl))
  f314 := Try.func114.trans (congrArg some (by kernel_rfl))
  t3 := Try.underlying3
  a3 := Try.isAgg3
  z3 := Try.sizeOf3
  v3 := Try.zeroValue3
  t4 := Try.underlying4
  a4 := Try.isAgg4
  z4 := Try.sizeOf4
  v4 := Try.zeroValue4
  t5 := Try.underlying5
  a5 := Try.isAgg5
  z5 := Try.sizeOf5
  v5 := Try.zeroValue5
  t9 := Try.underlying9
  a9 := Try.isAgg9
  z9 := Try.sizeOf9
  v9 := Try.zeroValue9
  t46 := Try.underlying123
  a46 := Try.isAgg123
  z46 := Try.sizeOf123
  v46 := Try.zeroValue123
  t51 := Try.underlying149
  a51 := Try.isAgg149
  z51 := Try.sizeOf149
  v51 := Try.zeroValue149
  t146 := Try.underlying172
  a146 := Try.isAgg172
  z146 := Try.sizeOf172
  v146 := Try.zeroValue172
  g1 := by kernel_rfl }
open Go.RowKit Go.Lib in
theorem Try.strings_Contains (s sub : ByteArray) (m : Int) (w : World) (hs : s.size < 4294967281) (hm : w.cell? ⟨0, 0, none⟩ = some (.int .i64 m)) :
    Calls Try.prog 63 #[.string s, .string sub] w fun e w' => e = .returned (.bool (Lib.contains s.data.toList sub.data.toList)) ∧ w' = w := Any.strings_Contains Try.lays144 s sub m w hs hm
def Try.laysM144_ren : Go.Shelf.Ren := ⟨fun | 144 => 63 | 143 => 74 | 219 => 96 | 217 => 107 | 225 => 108 | 224 => 109 | 267 => 110 | 266 => 113 | 314 => 114 | n => n, fun | 9 => 9 | 4 => 4 | 3 => 3 | 5 => 5 | 46 => 123 | 146 => 172 | 51 => 149 | n => n, fun | 1 => 0 | n => n⟩
theorem Try.laysM144 : Go.Proofs.LaysM.n144 Try.prog Try.laysM144_ren := {
  mixed := by kernel_rfl
  f143 := Try.func74.trans (congrArg some (by kernel_rfl))
  f144 := Try.func63.trans (congrArg some (by kernel_rfl))
  f217 := Try.func107.trans (congrArg some (by kernel_rfl))
  f219 := Try.func96.trans (congrArg some (by kernel_rfl))
  f224 := Try.func109.trans (congrArg some (by kernel_rfl))
  f225 := Try.func108.trans (congrArg some (by kernel_rfl))
  f266 := Try.func113.trans (congrArg some (by kernel_rfl))
  f267 := Try.func110.trans (congrArg some (by kernel_rfl))
  f314 := Try.func114.trans (congrArg some (by kernel_rfl))
  t3 := Try.underlying3
  a3 := Try.isAgg3
  z3 := Try.sizeOf3
  v3 := Try.zeroValue3
  t4 := Try.underlying4
  a4 := Try.isAgg4
  z4 := Try.sizeOf4
  v4 := Try.zeroValue4
  t5 := Try.underlying5
  a5 := Try.isAgg5
  z5 := Try.sizeOf5
  v5 := Try.zeroValue5
  t9 := Try.underlying9
  a9 := Try.isAgg9
  z9 := Try.sizeOf9
  v9 := Try.zeroValue9
  t46 := Try.underlying123
  a46 := Try.isAgg123
  z46 := Try.sizeOf123
  v46 := Try.zeroValue123
  t51 := Try.underlying149
  a51 := Try.isAgg149
  z51 := Try.sizeOf149
  v51 := Try.zeroValue149
  t146 := Try.underlying172
  a146 := Try.isAgg172
  z146 := Try.sizeOf172
  v146 := Try.zeroValue172
  g1 := by kernel_rfl
  i3 := by kernel_rfl
  i4 := by kernel_rfl
  i5 := by kernel_rfl
  i9 := by kernel_rfl
  i46 := by kernel_rfl
  i51 := by kernel_rfl
  i146 := by kernel_rfl
  m1 := by kernel_rfl
  s1_3 := fun w h => Go.Proofs.cell_of_shapedOpen_int (zero := #[.int .i64 0]) (t := 3) h (of_decide_eq_true (by kernel_rfl)) (by kernel_rfl) rfl (by kernel_rfl) (by kernel_rfl) Try.underlying3 }
def Try.lays189_ren : Go.Shelf.Ren := ⟨fun | 189 => 51 | 125 => 67 | 257 => 66 | 128 => 84 | 129 => 85 | 294 => 75 | 295 => 76 | 296 => 77 | 297 => 78 | 298 => 79 | 299 => 80 | 216 => 81 | 300 => 82 | 301 => 83 | 328 => 97 | 329 => 98 | 330 => 99 | 331 => 100 | 332 => 101 | 215 => 102 | 343 => 111 | n => n, fun | 28 => 68 | 3 => 3 | 46 => 123 | 0 => 0 | 51 => 149 | 53 => 151 | 4 => 4 | 183 => 142 | 182 => 141 | 131 => 96 | 5 => 5 | 9 => 9 | 218 => 158 | 222 => 162 | 228 => 168 | 229 => 169 | n => n, fun | n => n⟩
theorem Try.lays189 : Go.Proofs.Lays.n189 Try.prog Try.lays189_ren := {
  mixed := by kernel_rfl
  f125 := Try.func67.trans (congrArg some (by kernel_rfl))
  f128 := Try.func84.trans (congrArg some (by kernel_rfl))
  f129 := Try.func85.trans (congrArg some (by kernel_rfl))
  f189 := Try.func51.trans (congrArg some (by kernel_rfl))
  f215 := Try.func102.trans (congrArg some (by kernel_rfl))
  f216 := Try.func81.trans (congrArg some (by kernel_rfl))
  f257 := Try.func66.trans (congrArg some (by kernel_rfl))
  f294 := Try.func75.trans (congrArg some (by kernel_rfl))
  f295 := Try.func76.trans (congrArg some (by kernel_rfl))
  f296 := Try.func77.trans (congrArg some (by kernel_rfl))
  f297 := Try.func78.trans (congrArg some (by kernel_rfl))
  f298 := Try.func79.trans (congrArg some (by kernel_rfl))
  f299 := Try.func80.trans (congrArg some (by kernel_rfl))
  f300 := Try.func82.trans (congrArg some (by kernel_rfl))
  f301 := Try.func83.trans (congrArg some (by kernel_rfl))
  f328 := Try.func97.trans (congrArg some (by kernel_rfl))
  f329 := Try.func98.trans (congrArg some (by kernel_rfl))
  f330 := Try.func99.trans (congrArg some (by kernel_rfl))
  f331 := Try.func100.trans (congrArg some (by kernel_rfl))
  f332 := Try.func101.trans (congrArg some (by kernel_rfl))
  f343 := Try.func111.trans (congrArg some (by kernel_rfl))
  t0 := Try.underlying0
  a0 := Try.isAgg0
  z0 := Try.sizeOf0
  v0 := Try.zeroValue0
  t3 := Try.underlying3
  a3 := Try.isAgg3
  z3 := Try.sizeOf3
  v3 := Try.zeroValue3
  t4 := Try.underlying4
  a4 := Try.isAgg4
  z4 := Try.sizeOf4
  v4 := Try.zeroValue4
  t5 := Try.underlying5
  a5 := Try.isAgg5
  z5 := Try.sizeOf5
  v5 := Try.zeroValue5
  t9 := Try.underlying9
  a9 := Try.isAgg9
  z9 := Try.sizeOf9
  v9 := Try.zeroValue9
  t28 := Try.underlying68
  a28 := Try.isAgg68
  z28 := Try.sizeOf68
  v28 := Try.zeroValue68
  t46 := Try.underlying123
  a46 := Try.isAgg123
  z46 := Try.sizeOf123
  v46 := Try.zeroValue123
  t51 := Try.underlying149
  a51 := Try.isAgg149
  z51 := Try.sizeOf149
  v51 := Try.zeroValue149
  t53 := Try.underlying151
  a53 := Try.isAgg151
  z53 := Try.sizeOf151
  v53 := Try.zeroValue151
  t131 := Try.underlying96
  a131 := Try.isAgg96
  z131 := Try.sizeOf96
  v131 := Try.zeroValue96
  t182 := Try.underlying141
  a182 := Try.isAgg141
  z182 := Try.sizeOf141
  v182 := Try.zeroValue141
  t183 := Try.underlying142
  a183 := Try.isAgg142
  z183 := Try.sizeOf142
  v183 := Try.zeroValue142
  t218 := Try.underlying158
  a218 := Try.isAgg158
  z218 := Try.sizeOf158
  v218 := Try.zeroValue158
  t222 := Try.underlying162
  a222 := Try.isAgg162
  z222 := Try.sizeOf162
  v222 := Try.zeroValue162
  t228 := Try.underlying168
  a228 := Try.isAgg168
  z228 := Try.sizeOf168
  v228 := Try.zeroValue168
  t229 := Try.underlying169
  a229 := Try.isAgg169
  z229 := Try.sizeOf169
  v229 := Try.zeroValue169 }
open Go.Sort Go.RowKit in
theorem Try.slices_Sort_int (blk off cap : Nat) (zs : List Int) (w : World) (hH : Holds (Value.int .i64) w blk off zs.toArray) (hblk : blk < w.heap.size) (hsz : zs.length < 4611686018427387904) :
    Calls Try.prog 51 #[.slice (some ⟨blk, off, none⟩) zs.length cap] w fun e w' =>
      e = .returned (.tuple #[]) ∧ ∃ n os, w' = grow (putRow (Value.int .i64) (Sort.ahead w n) blk off (zs.mergeSort fun x y => decide (x ≤ y)).toArray) os := Any.slices_Sort_int Try.lays189 blk off cap zs w hH hblk hsz
open Go.RowKit Go.Sort in
theorem Try.slices_Sort_int_none (p : Option Addr) (cap : Nat) (w : World) :
    Calls Try.prog 51 #[.slice p 0 cap] w fun e w' => e = .returned (.tuple #[]) ∧ w' = w := Any.slices_Sort_int_none Try.lays189 p cap w
def Try.keys41_ren : Go.Shelf.Ren := ⟨fun | 7 => 41 | 10 => 60 | n => n, fun | 23 => 112 | 26 => 9 | 3 => 4 | 28 => 116 | 0 => 0 | 27 => 115 | 33 => 95 | 4 => 4 | n => n, fun | n => n⟩
theorem Try.keys41 : Go.Proofs.SlLaysZ.n7 Try.prog Try.keys41_ren := {
  mixed := by kernel_rfl
  f7 := ⟨Try.f41.name, by decide, Try.func41.trans (congrArg some (by kernel_rfl))⟩
  f10 := ⟨Try.f60.name, by decide, Try.func60.trans (congrArg some (by kernel_rfl))⟩
  t0 := Try.underlying0
  a0 := Try.isAgg0
  z0 := Try.sizeOf0
  v0 := Try.zeroValue0
  t4 := Try.underlying4
  a4 := Try.isAgg4
  z4 := Try.sizeOf4
  v4 := Try.zeroValue4
  t23 := Try.underlying112
  a23 := Try.isAgg112
  z23 := Try.sizeOf112
  v23 := Try.zeroValue112
  t26 := Try.underlying9
  a26 := Try.isAgg9
  z26 := Try.sizeOf9
  v26 := Try.zeroValue9
  t27 := Try.underlying115
  a27 := Try.isAgg115
  z27 := Try.sizeOf115
  v27 := Try.zeroValue115
  t28 := Try.underlying116
  a28 := Try.isAgg116
  z28 := Try.sizeOf116
  v28 := Try.zeroValue116
  t33 := Try.underlying95
  a33 := Try.isAgg95
  z33 := Try.sizeOf95
  v33 := Try.zeroValue95 }
def Try.sorted40_ren : Go.Shelf.Ren := ⟨fun | 6 => 40 | 8 => 58 | 9 => 59 | 11 => 71 | 13 => 67 | 12 => 72 | 23 => 84 | 24 => 85 | 14 => 87 | 15 => 88 | 16 => 89 | 17 => 90 | 18 => 91 | 19 => 92 | 20 => 93 | 21 => 94 | 22 => 95 | 25 => 103 | 26 => 98 | 27 => 99 | 28 => 104 | 29 => 105 | 30 => 106 | 31 => 112 | n => n, fun | 26 => 9 | 28 => 116 | 24 => 113 | 0 => 0 | 3 => 3 | 37 => 123 | 48 => 149 | 50 => 151 | 4 => 4 | 40 => 142 | 39 => 141 | 45 => 96 | 5 => 5 | 9 => 9 | 51 => 158 | 55 => 162 | 57 => 168 | 58 => 169 | 33 => 95 | n => n, fun | n => n⟩
theorem Try.sorted40 : Go.Proofs.SlLaysZ.n6 Try.prog Try.sorted40_ren := {
  mixed := by kernel_rfl
  f6 := ⟨Try.f40.name, by decide, Try.func40.trans (congrArg some (by kernel_rfl))⟩
  f8 := ⟨Try.f58.name, by decide, Try.func58.trans (congrArg some (by kernel_rfl))⟩
  f11 := ⟨Try.f71.name, by decide, Try.func71.trans (congrArg some (by kernel_rfl))⟩
  t0 := Try.underlying0
  a0 := Try.isAgg0
  z0 := Try.sizeOf0
  v0 := Try.zeroValue0
  t24 := Try.underlying113
  a24 := Try.isAgg113
  z24 := Try.sizeOf113
  v24 := Try.zeroValue113
  t26 := Try.underlying9
  a26 := Try.isAgg9
  z26 := Try.sizeOf9
  v26 := Try.zeroValue9
  t28 := Try.underlying116
  a28 := Try.isAgg116
  z28 := Try.sizeOf116
  v28 := Try.zeroValue116
  i26 := by kernel_rfl }
def Try.sort59_ren : Go.Shelf.Ren := ⟨fun | 6 => 59 | 8 => 67 | 9 => 72 | 19 => 84 | 20 => 85 | 21 => 87 | 22 => 88 | 23 => 89 | 24 => 90 | 25 => 91 | 26 => 92 | 27 => 93 | 28 => 94 | 29 => 95 | 36 => 103 | 31 => 98 | 32 => 99 | 37 => 104 | 38 => 105 | 39 => 106 | 41 => 112 | n => n, fun | 27 => 113 | 29 => 9 | 3 => 3 | 32 => 123 | 26 => 113 | 0 => 0 | 44 => 149 | 46 => 151 | 4 => 4 | 36 => 142 | 35 => 141 | 41 => 96 | 5 => 5 | 9 => 9 | 53 => 158 | 57 => 162 | 63 => 168 | 64 => 169 | n => n, fun | n => n⟩
theorem Try.sort59 : Go.Proofs.SlLaysM.n6 Try.prog Try.sort59_ren := {
  mixed := by kernel_rfl
  f6 := ⟨Try.f59.name, by decide, Try.func59.trans (congrArg some (by kernel_rfl))⟩
  f8 := Try.func67.trans (congrArg some (by kernel_rfl))
  f9 := ⟨Try.f72.name, by decide, Try.func72.trans (congrArg some (by kernel_rfl))⟩
  f19 := Try.func84.trans (congrArg some (by kernel_rfl))
  f20 := Try.func85.trans (congrArg some (by kernel_rfl))
  f21 := ⟨Try.f87.name, by decide, Try.func87.trans (congrArg some (by kernel_rfl))⟩
  f22 := ⟨Try.f88.name, by decide, Try.func88.trans (congrArg some (by kernel_rfl))⟩
  f23 := ⟨Try.f89.name, by decide, Try.func89.trans (congrArg some (by kernel_rfl))⟩
  f24 := ⟨Try.f90.name, by decide, Try.func90.trans (congrArg some (by kernel_rfl))⟩
  f25 := ⟨Try.f91.name, by decide, Try.func91.trans (congrArg some (by kernel_rfl))⟩
  f26 := ⟨Try.f92.name, by decide, Try.func92.trans (congrArg some (by kernel_rfl))⟩
  f27 := ⟨Try.f93.name, by decide, Try.func93.trans (congrArg some (by kernel_rfl))⟩
  f28 := ⟨Try.f94.name, by decide, Try.func94.trans (congrArg some (by kernel_rfl))⟩
  f29 := ⟨Try.f95.name, by decide, Try.func95.trans (congrArg some (by kernel_rfl))⟩
  f31 := Try.func98.trans (congrArg some (by kernel_rfl))
  f32 := Try.func99.trans (congrArg some (by kernel_rfl))
  f36 := ⟨Try.f103.name, by decide, Try.func103.trans (congrArg some (by kernel_rfl))⟩
  f37 := ⟨Try.f104.name, by decide, Try.func104.trans (congrArg some (by kernel_rfl))⟩
  f38 := ⟨Try.f105.name, by decide, Try.func105.trans (congrArg some (by kernel_rfl))⟩
  f39 := ⟨Try.f106.name, by decide, Try.func106.trans (congrArg some (by kernel_rfl))⟩
  f41 := ⟨Try.f112.name, by decide, Try.func112.trans (congrArg some (by kernel_rfl))⟩
  t0 := Try.underlying0
  a0 := Try.isAgg0
  z0 := Try.sizeOf0
  v0 := Try.zeroValue0
  t3 := Try.underlying3
  a3 := Try.isAgg3
  z3 := Try.sizeOf3
  v3 := Try.zeroValue3
  t4 := Try.underlying4
  a4 := Try.isAgg4
  z4 := Try.sizeOf4
  v4 := Try.zeroValue4
  t5 := Try.underlying5
  a5 := Try.isAgg5
  z5 := Try.sizeOf5
  v5 := Try.zeroValue5
  t9 := Try.underlying9
  a9 := Try.isAgg9
  z9 := Try.sizeOf9
  v9 := Try.zeroValue9
  t26 := Try.underlying113
  a26 := Try.isAgg113
  z26 := Try.sizeOf113
  v26 := Try.zeroValue113
  t27 := Try.underlying113
  a27 := Try.isAgg113
  z27 := Try.sizeOf113
  v27 := Try.zeroValue113
  t29 := Try.underlying9
  a29 := Try.isAgg9
  z29 := Try.sizeOf9
  v29 := Try.zeroValue9
  t32 := Try.underlying123
  a32 := Try.isAgg123
  z32 := Try.sizeOf123
  v32 := Try.zeroValue123
  t35 := Try.underlying141
  a35 := Try.isAgg141
  z35 := Try.sizeOf141
  v35 := Try.zeroValue141
  t36 := Try.underlying142
  a36 := Try.isAgg142
  z36 := Try.sizeOf142
  v36 := Try.zeroValue142
  t41 := Try.underlying96
  a41 := Try.isAgg96
  z41 := Try.sizeOf96
  v41 := Try.zeroValue96
  t44 := Try.underlying149
  a44 := Try.isAgg149
  z44 := Try.sizeOf149
  v44 := Try.zeroValue149
  t46 := Try.underlying151
  a46 := Try.isAgg151
  z46 := Try.sizeOf151
  v46 := Try.zeroValue151
  t53 := Try.underlying158
  a53 := Try.isAgg158
  z53 := Try.sizeOf158
  v53 := Try.zeroValue158
  t57 := Try.underlying162
  a57 := Try.isAgg162
  z57 := Try.sizeOf162
  v57 := Try.zeroValue162
  t63 := Try.underlying168
  a63 := Try.isAgg168
  z63 := Try.sizeOf168
  v63 := Try.zeroValue168
  t64 := Try.underlying169
  a64 := Try.isAgg169
  z64 := Try.sizeOf169
  v64 := Try.zeroValue169 }
def Try.keys32_ren : Go.Shelf.Ren := ⟨fun | 7 => 32 | 10 => 52 | n => n, fun | 23 => 100 | 26 => 3 | 3 => 4 | 28 => 103 | 0 => 0 | 27 => 102 | 33 => 125 | 4 => 4 | n => n, fun | n => n⟩
theorem Try.keys32 : Go.Proofs.SlLaysZI.n7 Try.prog Try.keys32_ren := {
  mixed := by kernel_rfl
  f7 := ⟨Try.f32.name, by decide, Try.func32.trans (congrArg some (by kernel_rfl))⟩
  f10 := ⟨Try.f52.name, by decide, Try.func52.trans (congrArg some (by kernel_rfl))⟩
  t0 := Try.underlying0
  a0 := Try.isAgg0
  z0 := Try.sizeOf0
  v0 := Try.zeroValue0
  t4 := Try.underlying4
  a4 := Try.isAgg4
  z4 := Try.sizeOf4
  v4 := Try.zeroValue4
  t23 := Try.underlying100
  a23 := Try.isAgg100
  z23 := Try.sizeOf100
  v23 := Try.zeroValue100
  t26 := Try.underlying3
  a26 := Try.isAgg3
  z26 := Try.sizeOf3
  v26 := Try.zeroValue3
  t27 := Try.underlying102
  a27 := Try.isAgg102
  z27 := Try.sizeOf102
  v27 := Try.zeroValue102
  t28 := Try.underlying103
  a28 := Try.isAgg103
  z28 := Try.sizeOf103
  v28 := Try.zeroValue103
  t33 := Try.underlying125
  a33 := Try.isAgg125
  z33 := Try.sizeOf125
  v33 := Try.zeroValue125 }
def Try.sorted31_ren : Go.Shelf.Ren := ⟨fun | 6 => 31 | 8 => 50 | 9 => 51 | 11 => 65 | 13 => 67 | 12 => 66 | 23 => 84 | 24 => 85 | 14 => 75 | 15 => 76 | 16 => 77 | 17 => 78 | 18 => 79 | 19 => 80 | 20 => 81 | 21 => 82 | 22 => 83 | 25 => 97 | 26 => 98 | 27 => 99 | 28 => 100 | 29 => 101 | 30 => 102 | 31 => 111 | n => n, fun | 26 => 3 | 28 => 103 | 24 => 68 | 0 => 0 | 3 => 3 | 37 => 123 | 48 => 149 | 50 => 151 | 4 => 4 | 40 => 142 | 39 => 141 | 45 => 96 | 5 => 5 | 9 => 9 | 51 => 158 | 55 => 162 | 57 => 168 | 58 => 169 | 33 => 125 | n => n, fun | n => n⟩
theorem Try.sorted31 : Go.Proofs.SlLaysZI.n6 Try.prog Try.sorted31_ren := {
  mixed := by kernel_rfl
  f6 := ⟨Try.f31.name, by decide, Try.func31.trans (congrArg some (by kernel_rfl))⟩
  f8 := ⟨Try.f50.name, by decide, Try.func50.trans (congrArg some (by kernel_rfl))⟩
  f11 := ⟨Try.f65.name, by decide, Try.func65.trans (congrArg some (by kernel_rfl))⟩
  t0 := Try.underlying0
  a0 := Try.isAgg0
  z0 := Try.sizeOf0
  v0 := Try.zeroValue0
  t24 := Try.underlying68
  a24 := Try.isAgg68
  z24 := Try.sizeOf68
  v24 := Try.zeroValue68
  t26 := Try.underlying3
  a26 := Try.isAgg3
  z26 := Try.sizeOf3
  v26 := Try.zeroValue3
  t28 := Try.underlying103
  a28 := Try.isAgg103
  z28 := Try.sizeOf103
  v28 := Try.zeroValue103
  i26 := by kernel_rfl }
end Go.Proofs
