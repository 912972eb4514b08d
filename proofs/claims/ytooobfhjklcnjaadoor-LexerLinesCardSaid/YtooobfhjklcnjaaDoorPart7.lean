/- Own texts, part 7. -/
import Derived.Test.YtooobfhjklcnjaaDoorPart3
import Derived.Lib.IndexMore
import Derived.Lib.IndexBytes
import Derived.Test.YtooobfhjklcnjaaDoorPart6
import Derived.Test.YtooobfhjklcnjaaDoorPart2
import Derived.Test.YtooobfhjklcnjaaDoorRows
import Derived.Lib.LaidTab
import Derived.Lib.LaidU8
import Derived.LaidLaws
import Derived.Lay
import Derived.Shelf.Lay

namespace Go.Abs
open Go.Proofs
theorem w16 (m : Int) (s : List UInt8) : (pureW PP (G8 m) XW (tbl lib8) (itbl []) nAn [] 16 [.str s] (.bool (kwR s), [])) =
(((!s == []) = true →
    ∃ (b : Bool),
      CallIs (tbl [(50, sIndexByte), (53, sIndexByteString), (32, sContains)] 32 [AV.str s, AV.str [32]]) (AV.bool b) [] ∧
        (b = true → RetIs (AV.bool false) [] (AV.bool (kwR s), [])) ∧
 (b = false →
 1 + s.length ≤ 9223372036854775807 ∧
 ([32] ++ s).length + 1 ≤ 9223372036854775807 ∧
 ∃ (b : Bool),
 CallIs
 (some
 (AV.bool
 (Lib.contains
 [32, 116, 97, 98, 108, 101, 32, 102, 101, 97, 116, 117, 114, 101, 32, 111, 102, 32, 107, 101, 101, 112, 32, 98, 111, 111, 108, 32,
 116, 101, 120, 116, 32, 107, 101, 121, 32, 105, 110, 116, 32, 100, 101, 99, 32, 105, 102, 32, 116, 104, 101, 110, 32, 101, 108,
 115, 101, 32, 100, 101, 102, 97, 117, 108, 116, 32, 111, 114, 32, 97, 110, 100, 32, 110, 111, 116, 32, 116, 114, 117, 101, 32,
 102, 97, 108, 115, 101, 32, 110, 117, 108, 108, 32, 99, 111, 117, 110, 116, 32, 115, 117, 109, 32, 109, 101, 97, 110, 32, 109,
 105, 110, 32, 109, 97, 120, 32, 102, 105, 114, 115, 116, 32, 108, 97, 115, 116, 32, 100, 105, 115, 116, 105, 110, 99, 116, 32,
 113, 117, 97, 110, 116, 105, 108, 101, 32, 100, 101, 99, 97, 121, 32, 97, 108, 108, 32, 115, 108, 105, 100, 105, 110, 103, 32,
 116, 117, 109, 98, 108, 105, 110, 103, 32, 115, 101, 115, 115, 105, 111, 110, 32, 119, 104, 101, 114, 101, 32]
 ([32] ++ s ++ [32])),
 []))
 (AV.bool b) [] ∧
 (b = true → RetIs (AV.bool true) [] (AV.bool (kwR s), [])) ∧ (b = false → RetIs (AV.bool false) [] (AV.bool (kwR s), [])))) ∧
  ((!s == []) = false → RetIs (AV.bool false) [] (AV.bool (kwR s), []))) := by kernel_rfl
theorem w17 (m : Int) (s : List UInt8) : (pureW PP (G8 m) XW (tbl []) (itbl []) nAn [] 17 [.str s] (.bool (kwR s), [])) =
(((s == [116, 97, 98, 108, 101]) = true → RetIs (AV.bool true) [] (AV.bool (kwR s), [])) ∧
  ((s == [116, 97, 98, 108, 101]) = false →
    ((s == [102, 101, 97, 116, 117, 114, 101]) = true → RetIs (AV.bool true) [] (AV.bool (kwR s), [])) ∧
      ((s == [102, 101, 97, 116, 117, 114, 101]) = false →
        ((s == [111, 102]) = true → RetIs (AV.bool true) [] (AV.bool (kwR s), [])) ∧
 ((s == [111, 102]) = false →
 ((s == [107, 101, 101, 112]) = true → RetIs (AV.bool true) [] (AV.bool (kwR s), [])) ∧
 ((s == [107, 101, 101, 112]) = false →
 ((s == [98, 111, 111, 108]) = true → RetIs (AV.bool true) [] (AV.bool (kwR s), [])) ∧
 ((s == [98, 111, 111, 108]) = false →
 ((s == [116, 101, 120, 116]) = true → RetIs (AV.bool true) [] (AV.bool (kwR s), [])) ∧
 ((s == [116, 101, 120, 116]) = false →
 ((s == [107, 101, 121]) = true → RetIs (AV.bool true) [] (AV.bool (kwR s), [])) ∧
 ((s == [107, 101, 121]) = false →
 ((s == [105, 110, 116]) = true → RetIs (AV.bool true) [] (AV.bool (kwR s), [])) ∧
 ((s == [105, 110, 116]) = false →
 ((s == [100, 101, 99]) = true → RetIs (AV.bool true) [] (AV.bool (kwR s), [])) ∧
 ((s == [100, 101, 99]) = false →
 ((s == [105, 102]) = true → RetIs (AV.bool true) [] (AV.bool (kwR s), [])) ∧
 ((s == [105, 102]) = false →
 ((s == [116, 104, 101, 110]) = true → RetIs (AV.bool true) [] (AV.bool (kwR s), [])) ∧
 ((s == [116, 104, 101, 110]) = false →
 ((s == [101, 108, 115, 101]) = true → RetIs (AV.bool true) [] (AV.bool (kwR s), [])) ∧
 ((s == [101, 108, 115, 101]) = false →
 ((s == [100, 101, 102, 97, 117, 108, 116]) = true → RetIs (AV.bool true) [] (AV.bool (kwR s), [])) ∧
 ((s == [100, 101, 102, 97, 117, 108, 116]) = false →
 ((s == [111, 114]) = true → RetIs (AV.bool true) [] (AV.bool (kwR s), [])) ∧
 ((s == [111, 114]) = false →
 ((s == [97, 110, 100]) = true → RetIs (AV.bool true) [] (AV.bool (kwR s), [])) ∧
 ((s == [97, 110, 100]) = false →
 ((s == [110, 111, 116]) = true → RetIs (AV.bool true) [] (AV.bool (kwR s), [])) ∧
 ((s == [110, 111, 116]) = false →
 ((s == [116, 114, 117, 101]) = true → RetIs (AV.bool true) [] (AV.bool (kwR s), [])) ∧
 ((s == [116, 114, 117, 101]) = false →
 ((s == [102, 97, 108, 115, 101]) = true → RetIs (AV.bool true) [] (AV.bool (kwR s), [])) ∧
 ((s == [102, 97, 108, 115, 101]) = false →
 ((s == [110, 117, 108, 108]) = true → RetIs (AV.bool true) [] (AV.bool (kwR s), [])) ∧
 ((s == [110, 117, 108, 108]) = false →
 ((s == [99, 111, 117, 110, 116]) = true →
 RetIs (AV.bool true) [] (AV.bool (kwR s), [])) ∧
 ((s == [99, 111, 117, 110, 116]) = false →
 ((s == [115, 117, 109]) = true →
 RetIs (AV.bool true) [] (AV.bool (kwR s), [])) ∧
 ((s == [115, 117, 109]) = false →
 ((s == [109, 101, 97, 110]) = true →
 RetIs (AV.bool true) [] (AV.bool (kwR s), [])) ∧
 ((s == [109, 101, 97, 110]) = false →
 ((s == [109, 105, 110]) = true →
 RetIs (AV.bool true) [] (AV.bool (kwR s), [])) ∧
 ((s == [109, 105, 110]) = false →
 ((s == [109, 97, 120]) = true →
 RetIs (AV.bool true) [] (AV.bool (kwR s), [])) ∧
 ((s == [109, 97, 120]) = false →
 ((s == [102, 105, 114, 115, 116]) = true →
 RetIs (AV.bool true) [] (AV.bool (kwR s), [])) ∧
 ((s == [102, 105, 114, 115, 116]) = false →
 ((s == [108, 97, 115, 116]) = true →
 RetIs (AV.bool true) [] (AV.bool (kwR s), [])) ∧
 ((s == [108, 97, 115, 116]) = false →
 ((s == [100, 105, 115, 116, 105, 110, 99, 116]) = true →
 RetIs (AV.bool true) [] (AV.bool (kwR s), [])) ∧
 ((s == [100, 105, 115, 116, 105, 110, 99, 116]) =
 false →
 ((s == [113, 117, 97, 110, 116, 105, 108, 101]) =
 true →
 RetIs (AV.bool true) [] (AV.bool (kwR s), [])) ∧
 ((s == [113, 117, 97, 110, 116, 105, 108, 101]) =
 false →
 ((s == [100, 101, 99, 97, 121]) = true →
 RetIs (AV.bool true) []
 (AV.bool (kwR s), [])) ∧
 ((s == [100, 101, 99, 97, 121]) = false →
 ((s == [97, 108, 108]) = true →
 RetIs (AV.bool true) []
 (AV.bool (kwR s), [])) ∧
 ((s == [97, 108, 108]) = false →
 ((s ==
 [115, 108, 105, 100, 105, 110,
 103]) =
 true →
 RetIs (AV.bool true) []
 (AV.bool (kwR s), [])) ∧
 ((s ==
 [115, 108, 105, 100, 105, 110,
 103]) =
 false →
 ((s ==
 [116, 117, 109, 98, 108,
 105, 110, 103]) =
 true →
 RetIs (AV.bool true) []
 (AV.bool (kwR s), [])) ∧
 ((s ==
 [116, 117, 109, 98, 108,
 105, 110, 103]) =
 false →
 ((s ==
 [115, 101, 115, 115,
 105, 111, 110]) =
 true →
 RetIs (AV.bool true) []
 (AV.bool (kwR s), [])) ∧
 ((s ==
 [115, 101, 115, 115,
 105, 111, 110]) =
 false →
 ((s ==
 [119, 104, 101, 114,
 101]) =
 true →
 RetIs (AV.bool true) []
 (AV.bool (kwR s),
 [])) ∧
 ((s ==
 [119, 104, 101, 114,
 101]) =
 false →
 RetIs (AV.bool false) []
 (AV.bool (kwR s),
 [])))))))))))))))))))))))))))))))))))) := by kernel_rfl
theorem w18 (m : Int) (s : List UInt8) : (pureW PP (G8 m) XW (tbl [(16, s16)]) (itbl []) (a18 s) [] 18 [.str s] (.bool (nameR s), [])) =
(((s == []) = true → RetIs (AV.bool false) [] (AV.bool (nameR s), [])) ∧
  ((s == []) = false →
    (decide ((↑s.length : Int) > 24) = true → RetIs (AV.bool false) [] (AV.bool (nameR s), [])) ∧
      (decide ((↑s.length : Int) > 24) = false →
        ∃ (b : Bool),
 CallIs (tbl [(16, s16)] 16 [AV.str s]) (AV.bool b) [] ∧
 (b = true → RetIs (AV.bool false) [] (AV.bool (nameR s), [])) ∧
 (b = false →
 (∃ (y : Int),
 ValsAre [AV.str s, AV.int IntKind.i64 (↑s.length : Int), AV.int IntKind.i64 0]
 [AV.str s, AV.int IntKind.i64 (↑s.length : Int), AV.int IntKind.i64 y] ∧
 StIs { boxes := [], live := [] } { boxes := [], live := [] } ∧ (∃ (k : Nat), y = (↑k : Int) ∧ k ≤ s.length ∧ (1 ≤ k → k ≤ wl s)) ∧ True) ∧
 ∀ (x : Int),
 (∃ (k : Nat), x = (↑k : Int) ∧ k ≤ s.length ∧ (1 ≤ k → k ≤ wl s)) →
 (decide (x < (↑s.length : Int)) = true →
 0 ≤ x ∧
 ∃ (c : UInt8),
 s[x.toNat]? = some c ∧
 (decide ((↑c.toNat : Int) ≥ 97) = true →
 (decide ((↑c.toNat : Int) ≤ 122) = true →
 ∃ (y : Int),
 ValsAre [AV.str s, AV.int IntKind.i64 (↑s.length : Int), AV.int IntKind.i64 (IntKind.i64.wrap (x + 1))]
 [AV.str s, AV.int IntKind.i64 (↑s.length : Int), AV.int IntKind.i64 y] ∧
 StIs { boxes := [], live := [] } { boxes := [], live := [] } ∧
 (∃ (k : Nat), y = (↑k : Int) ∧ k ≤ s.length ∧ (1 ≤ k → k ≤ wl s)) ∧
 ((↑s.length : Int) - y).toNat < ((↑s.length : Int) - x).toNat) ∧
 (decide ((↑c.toNat : Int) ≤ 122) = false →
 (decide (x > 0) = true →
 (decide ((↑c.toNat : Int) ≥ 48) = true →
 (decide ((↑c.toNat : Int) ≤ 57) = true →
 ∃ (y : Int),
 ValsAre [AV.str s, AV.int IntKind.i64 (↑s.length : Int), AV.int IntKind.i64 (IntKind.i64.wrap (x + 1))]
 [AV.str s, AV.int IntKind.i64 (↑s.length : Int), AV.int IntKind.i64 y] ∧
 StIs { boxes := [], live := [] } { boxes := [], live := [] } ∧
 (∃ (k : Nat), y = (↑k : Int) ∧ k ≤ s.length ∧ (1 ≤ k → k ≤ wl s)) ∧
 ((↑s.length : Int) - y).toNat < ((↑s.length : Int) - x).toNat) ∧
 (decide ((↑c.toNat : Int) ≤ 57) = false →
 (((↑c.toNat : Int) == 95) = true →
 ∃ (y : Int),
 ValsAre
 [AV.str s, AV.int IntKind.i64 (↑s.length : Int), AV.int IntKind.i64 (IntKind.i64.wrap (x + 1))]
 [AV.str s, AV.int IntKind.i64 (↑s.length : Int), AV.int IntKind.i64 y] ∧
 StIs { boxes := [], live := [] } { boxes := [], live := [] } ∧
 (∃ (k : Nat), y = (↑k : Int) ∧ k ≤ s.length ∧ (1 ≤ k → k ≤ wl s)) ∧
 ((↑s.length : Int) - y).toNat < ((↑s.length : Int) - x).toNat) ∧
 (((↑c.toNat : Int) == 95) = false → RetIs (AV.bool false) [] (AV.bool (nameR s), [])))) ∧
 (decide ((↑c.toNat : Int) ≥ 48) = false →
 (((↑c.toNat : Int) == 95) = true →
 ∃ (y : Int),
 ValsAre [AV.str s, AV.int IntKind.i64 (↑s.length : Int), AV.int IntKind.i64 (IntKind.i64.wrap (x + 1))]
 [AV.str s, AV.int IntKind.i64 (↑s.length : Int), AV.int IntKind.i64 y] ∧
 StIs { boxes := [], live := [] } { boxes := [], live := [] } ∧
 (∃ (k : Nat), y = (↑k : Int) ∧ k ≤ s.length ∧ (1 ≤ k → k ≤ wl s)) ∧
 ((↑s.length : Int) - y).toNat < ((↑s.length : Int) - x).toNat) ∧
 (((↑c.toNat : Int) == 95) = false → RetIs (AV.bool false) [] (AV.bool (nameR s), [])))) ∧
 (decide (x > 0) = false → RetIs (AV.bool false) [] (AV.bool (nameR s), [])))) ∧
 (decide ((↑c.toNat : Int) ≥ 97) = false →
 (decide (x > 0) = true →
 (decide ((↑c.toNat : Int) ≥ 48) = true →
 (decide ((↑c.toNat : Int) ≤ 57) = true →
 ∃ (y : Int),
 ValsAre [AV.str s, AV.int IntKind.i64 (↑s.length : Int), AV.int IntKind.i64 (IntKind.i64.wrap (x + 1))]
 [AV.str s, AV.int IntKind.i64 (↑s.length : Int), AV.int IntKind.i64 y] ∧
 StIs { boxes := [], live := [] } { boxes := [], live := [] } ∧
 (∃ (k : Nat), y = (↑k : Int) ∧ k ≤ s.length ∧ (1 ≤ k → k ≤ wl s)) ∧
 ((↑s.length : Int) - y).toNat < ((↑s.length : Int) - x).toNat) ∧
 (decide ((↑c.toNat : Int) ≤ 57) = false →
 (((↑c.toNat : Int) == 95) = true →
 ∃ (y : Int),
 ValsAre [AV.str s, AV.int IntKind.i64 (↑s.length : Int), AV.int IntKind.i64 (IntKind.i64.wrap (x + 1))]
 [AV.str s, AV.int IntKind.i64 (↑s.length : Int), AV.int IntKind.i64 y] ∧
 StIs { boxes := [], live := [] } { boxes := [], live := [] } ∧
 (∃ (k : Nat), y = (↑k : Int) ∧ k ≤ s.length ∧ (1 ≤ k → k ≤ wl s)) ∧
 ((↑s.length : Int) - y).toNat < ((↑s.length : Int) - x).toNat) ∧
 (((↑c.toNat : Int) == 95) = false → RetIs (AV.bool false) [] (AV.bool (nameR s), [])))) ∧
 (decide ((↑c.toNat : Int) ≥ 48) = false →
 (((↑c.toNat : Int) == 95) = true →
 ∃ (y : Int),
 ValsAre [AV.str s, AV.int IntKind.i64 (↑s.length : Int), AV.int IntKind.i64 (IntKind.i64.wrap (x + 1))]
 [AV.str s, AV.int IntKind.i64 (↑s.length : Int), AV.int IntKind.i64 y] ∧
 StIs { boxes := [], live := [] } { boxes := [], live := [] } ∧
 (∃ (k : Nat), y = (↑k : Int) ∧ k ≤ s.length ∧ (1 ≤ k → k ≤ wl s)) ∧
 ((↑s.length : Int) - y).toNat < ((↑s.length : Int) - x).toNat) ∧
 (((↑c.toNat : Int) == 95) = false → RetIs (AV.bool false) [] (AV.bool (nameR s), [])))) ∧
 (decide (x > 0) = false → RetIs (AV.bool false) [] (AV.bool (nameR s), [])))) ∧
 (decide (x < (↑s.length : Int)) = false → RetIs (AV.bool true) [] (AV.bool (nameR s), [])))))) := by kernel_rfl
theorem w19 (m : Int) (s : List UInt8) : (pureW PP (G8 m) XW (tbl [(17, s17), (33, s33')]) (itbl []) nAn [] 19 [.str s] (.bool (nameR s), [])) =
(((!s == []) = true →
    (decide ((↑s.length : Int) ≤ 24) = true →
        s.length ≤ 70368744177664 ∧
 ∃ (n : Int),
 CallIs (tbl [(17, s17), (33, s33')] 33 [AV.sl 1 (List.map (fun (c : UInt8) => AV.int IntKind.u8 (↑c.toNat : Int)) s) Own.no, AV.int IntKind.i64 0])
 (AV.int IntKind.i64 n) [] ∧
 ((n == (↑s.length : Int)) = true →
 ∃ (b : Bool),
 CallIs (some (AV.bool (kwR s), [])) (AV.bool b) [] ∧
 (b = true → RetIs (AV.bool false) [] (AV.bool (nameR s), [])) ∧ (b = false → RetIs (AV.bool true) [] (AV.bool (nameR s), []))) ∧
 ((n == (↑s.length : Int)) = false → RetIs (AV.bool false) [] (AV.bool (nameR s), []))) ∧
      (decide ((↑s.length : Int) ≤ 24) = false → RetIs (AV.bool false) [] (AV.bool (nameR s), []))) ∧
  ((!s == []) = false → RetIs (AV.bool false) [] (AV.bool (nameR s), []))) := by kernel_rfl
theorem w4 (m : Int) (s : List UInt8) (s11 : Spec) : (pureW PP (G8 m) XW (tbl [(11, s11), (16, s16), (17, s17), (18, s18), (19, s18)]) (itbl []) nAn [] 4 [.str s] (.bool true, [])) =
(∃ (b : Bool),
  CallIs (tbl [(11, s11), (16, s16), (17, s17), (18, s18), (19, s18)] 11 []) (AV.bool b) [] ∧
    (b = true →
        (decide ((↑s.length : Int) > 200) = true → RetIs (AV.bool true) [] (AV.bool true, [])) ∧
 (decide ((↑s.length : Int) > 200) = false →
 ∃ (b : Bool),
 CallIs (tbl [(11, s11), (16, s16), (17, s17), (18, s18), (19, s18)] 16 [AV.str s]) (AV.bool b) [] ∧
 (b = true →
 ∃ (b : Bool),
 CallIs (some (AV.bool (kwR s), [])) (AV.bool b) [] ∧
 (b = true →
 (true = true →
 ∃ (b : Bool),
 CallIs (tbl [(11, s11), (16, s16), (17, s17), (18, s18), (19, s18)] 18 [AV.str s]) (AV.bool b) [] ∧
 (b = true →
 ∃ (b : Bool),
 CallIs (tbl [(11, s11), (16, s16), (17, s17), (18, s18), (19, s18)] 19 [AV.str s]) (AV.bool b) [] ∧
 (b = true →
 (true = true → RetIs (AV.bool true) [] (AV.bool true, [])) ∧
 (true = false → RetIs (AV.bool false) [] (AV.bool true, []))) ∧
 (b = false →
 (false = true → RetIs (AV.bool true) [] (AV.bool true, [])) ∧
 (false = false → RetIs (AV.bool false) [] (AV.bool true, [])))) ∧
 (b = false →
 ∃ (b : Bool),
 CallIs (tbl [(11, s11), (16, s16), (17, s17), (18, s18), (19, s18)] 19 [AV.str s]) (AV.bool b) [] ∧
 (b = true →
 (false = true → RetIs (AV.bool true) [] (AV.bool true, [])) ∧
 (false = false → RetIs (AV.bool false) [] (AV.bool true, []))) ∧
 (b = false →
 (true = true → RetIs (AV.bool true) [] (AV.bool true, [])) ∧
 (true = false → RetIs (AV.bool false) [] (AV.bool true, []))))) ∧
 (true = false → RetIs (AV.bool false) [] (AV.bool true, []))) ∧
 (b = false →
 (false = true →
 ∃ (b : Bool),
 CallIs (tbl [(11, s11), (16, s16), (17, s17), (18, s18), (19, s18)] 18 [AV.str s]) (AV.bool b) [] ∧
 (b = true →
 ∃ (b : Bool),
 CallIs (tbl [(11, s11), (16, s16), (17, s17), (18, s18), (19, s18)] 19 [AV.str s]) (AV.bool b) [] ∧
 (b = true →
 (true = true → RetIs (AV.bool true) [] (AV.bool true, [])) ∧
 (true = false → RetIs (AV.bool false) [] (AV.bool true, []))) ∧
 (b = false →
 (false = true → RetIs (AV.bool true) [] (AV.bool true, [])) ∧
 (false = false → RetIs (AV.bool false) [] (AV.bool true, [])))) ∧
 (b = false →
 ∃ (b : Bool),
 CallIs (tbl [(11, s11), (16, s16), (17, s17), (18, s18), (19, s18)] 19 [AV.str s]) (AV.bool b) [] ∧
 (b = true →
 (false = true → RetIs (AV.bool true) [] (AV.bool true, [])) ∧
 (false = false → RetIs (AV.bool false) [] (AV.bool true, []))) ∧
 (b = false →
 (true = true → RetIs (AV.bool true) [] (AV.bool true, [])) ∧
 (true = false → RetIs (AV.bool false) [] (AV.bool true, []))))) ∧
 (false = false → RetIs (AV.bool false) [] (AV.bool true, [])))) ∧
 (b = false →
 ∃ (b : Bool),
 CallIs (some (AV.bool (kwR s), [])) (AV.bool b) [] ∧
 (b = true →
 (false = true →
 ∃ (b : Bool),
 CallIs (tbl [(11, s11), (16, s16), (17, s17), (18, s18), (19, s18)] 18 [AV.str s]) (AV.bool b) [] ∧
 (b = true →
 ∃ (b : Bool),
 CallIs (tbl [(11, s11), (16, s16), (17, s17), (18, s18), (19, s18)] 19 [AV.str s]) (AV.bool b) [] ∧
 (b = true →
 (true = true → RetIs (AV.bool true) [] (AV.bool true, [])) ∧
 (true = false → RetIs (AV.bool false) [] (AV.bool true, []))) ∧
 (b = false →
 (false = true → RetIs (AV.bool true) [] (AV.bool true, [])) ∧
 (false = false → RetIs (AV.bool false) [] (AV.bool true, [])))) ∧
 (b = false →
 ∃ (b : Bool),
 CallIs (tbl [(11, s11), (16, s16), (17, s17), (18, s18), (19, s18)] 19 [AV.str s]) (AV.bool b) [] ∧
 (b = true →
 (false = true → RetIs (AV.bool true) [] (AV.bool true, [])) ∧
 (false = false → RetIs (AV.bool false) [] (AV.bool true, []))) ∧
 (b = false →
 (true = true → RetIs (AV.bool true) [] (AV.bool true, [])) ∧
 (true = false → RetIs (AV.bool false) [] (AV.bool true, []))))) ∧
 (false = false → RetIs (AV.bool false) [] (AV.bool true, []))) ∧
 (b = false →
 (true = true →
 ∃ (b : Bool),
 CallIs (tbl [(11, s11), (16, s16), (17, s17), (18, s18), (19, s18)] 18 [AV.str s]) (AV.bool b) [] ∧
 (b = true →
 ∃ (b : Bool),
 CallIs (tbl [(11, s11), (16, s16), (17, s17), (18, s18), (19, s18)] 19 [AV.str s]) (AV.bool b) [] ∧
 (b = true →
 (true = true → RetIs (AV.bool true) [] (AV.bool true, [])) ∧
 (true = false → RetIs (AV.bool false) [] (AV.bool true, []))) ∧
 (b = false →
 (false = true → RetIs (AV.bool true) [] (AV.bool true, [])) ∧
 (false = false → RetIs (AV.bool false) [] (AV.bool true, [])))) ∧
 (b = false →
 ∃ (b : Bool),
 CallIs (tbl [(11, s11), (16, s16), (17, s17), (18, s18), (19, s18)] 19 [AV.str s]) (AV.bool b) [] ∧
 (b = true →
 (false = true → RetIs (AV.bool true) [] (AV.bool true, [])) ∧
 (false = false → RetIs (AV.bool false) [] (AV.bool true, []))) ∧
 (b = false →
 (true = true → RetIs (AV.bool true) [] (AV.bool true, [])) ∧
 (true = false → RetIs (AV.bool false) [] (AV.bool true, []))))) ∧
 (true = false → RetIs (AV.bool false) [] (AV.bool true, [])))))) ∧
      (b = false → RetIs (AV.bool false) [] (AV.bool true, []))) := by kernel_rfl
end Go.Abs

namespace Go.Abs
open Go.Proofs

theorem p17 (m : Int) (s : List UInt8) : PureOk PP (G8 m) XW (tbl []) (itbl []) nAn [] 17 [.str s] (.bool (kwR s), []) := by
  constructor
  rw [w17]
  simp only [retIs_iff, Prod.mk.injEq, AV.bool.injEq, and_true, kwR, kwList, List.contains_cons, List.contains_nil, beq_iff_eq, beq_eq_false_iff_ne, ne_eq]
  repeat' (refine And.intro (fun h => ?_) (fun h => ?_))
  all_goals simp [*]

theorem p19 (m : Int) (s : List UInt8) : PureOk PP (G8 m) XW (tbl [(17, s17), (33, s33')]) (itbl []) nAn [] 19 [.str s] (.bool (nameR s), []) := by
  constructor
  rw [w19]
  have hb := unBytes_mk s
  unfold bytesL at hb
  simp only [callIs_iff, retIs_iff, Prod.mk.injEq, AV.bool.injEq, Option.some.injEq, and_true, exists_eq_left', tbl, s33', hb, decide_eq_true_eq, decide_eq_false_iff_not]
  refine ⟨fun h1 => ⟨fun h2 => ⟨by omega, ?_⟩, fun h2 => ?_⟩, fun h1 => ?_⟩
  · have hne : s ≠ [] := by simpa using h1
    have hp : 0 < s.length := List.length_pos_iff.2 hne
    refine ⟨wl s, ?_, fun h3 => ⟨fun h4 => ?_, fun h4 => ?_⟩, fun h3 => ?_⟩
    · have hc : 0 ≤ (0 : Int) ∧ Int.toNat 0 < s.length ∧ s.length < 2 ^ 60 := ⟨by omega, by simpa using hp, by omega⟩
      simp [hc, hne]
    · simp [nameR, h4]
    · have h3' : wl s = s.length := by have := eq_of_beq h3; omega
      simp [nameR, h4, hne, h3']
      omega
    · have h3' : wl s ≠ s.length := fun e => by rw [e] at h3; simp at h3
      simp [nameR, h3']
  · simp [nameR]; intro _ h; omega
  · have : s = [] := by simpa using h1
    simp [nameR, this]

theorem p4 (m : Int) (s : List UInt8) (s11 : Spec) (h11 : s11 [] = some (.bool true, [])) : PureOk PP (G8 m) XW (tbl [(11, s11), (16, s16), (17, s17), (18, s18), (19, s18)]) (itbl []) nAn [] 4 [.str s] (.bool true, []) := by
  constructor
  rw [w4]
  have t11 : tbl [(11, s11), (16, s16), (17, s17), (18, s18), (19, s18)] 11 [] = some (.bool true, []) := h11
  have t16 : s.length ≤ 1000000 → tbl [(11, s11), (16, s16), (17, s17), (18, s18), (19, s18)] 16 [.str s] = some (.bool (kwR s), []) := fun h => by
    show s16 [.str s] = _
    simp [s16, h]
  have t18 : s.length ≤ 1000000 → tbl [(11, s11), (16, s16), (17, s17), (18, s18), (19, s18)] 18 [.str s] = some (.bool (nameR s), []) := fun h => by
    show s18 [.str s] = _
    simp [s18, h]
  have t19 : s.length ≤ 1000000 → tbl [(11, s11), (16, s16), (17, s17), (18, s18), (19, s18)] 19 [.str s] = some (.bool (nameR s), []) := fun h => by
    show s18 [.str s] = _
    simp [s18, h]
  refine ⟨true, ⟨t11⟩, fun _ => ⟨fun _ => ⟨rfl⟩, fun hl => ?_⟩, fun h => nomatch h⟩
  have hl' : s.length ≤ 1000000 := by
    have := of_decide_eq_false hl
    omega
  rw [t16 hl', t18 hl', t19 hl']
  simp only [callIs_iff, retIs_iff, Prod.mk.injEq, AV.bool.injEq, Option.some.injEq, and_true, exists_eq_left']
  cases kwR s <;> cases nameR s <;> simp

theorem p18 (m : Int) (s : List UInt8) (hs : s.length ≤ 1000000) : PureOk PP (G8 m) XW (tbl [(16, s16)]) (itbl []) (a18 s) [] 18 [.str s] (.bool (nameR s), []) := by
  constructor
  rw [w18]
  have t16 : tbl [(16, s16)] 16 [.str s] = some (.bool (kwR s), []) := by
    show s16 [.str s] = _
    simp [s16, hs]
  rw [t16]
  simp only [callIs_iff, valsAre_iff, stIs_iff, retIs_iff, Prod.mk.injEq, AV.bool.injEq, AV.int.injEq, Option.some.injEq, List.cons.injEq, and_true, true_and, exists_eq_left', decide_eq_true_eq, decide_eq_false_iff_not, beq_iff_eq, beq_eq_false_iff_ne, ne_eq]
  refine ⟨fun h => by simp [nameR, h], fun hne => ⟨fun h => ?_, fun hl => ⟨fun h => by simp [nameR, h], fun hk => ⟨⟨0, rfl, by omega, by omega⟩, ?_⟩⟩⟩⟩
  · simp [nameR]; intro _ h2; omega
  · rintro x ⟨k, rfl, hk1, hk2⟩
    rw [wrap64_in (n := (k : Int) + 1) (by omega) (by omega)]
    have hw := wl_le s
    refine ⟨fun hlt => ?_, fun hge => ?_⟩
    · have hlt' : k < s.length := by omega
      refine ⟨by omega, s.getD k 0, by simp [hlt'], ?_⟩
      have hlet : letterB (s.getD k 0) = decide (97 ≤ (s.getD k 0).toNat ∧ (s.getD k 0).toNat ≤ 122) := rfl
      have h95 : (s.getD k 0).toNat = 95 ↔ s.getD k 0 = 95 := by
        rw [← UInt8.toNat_inj]; rfl
      have hin : innerB (s.getD k 0) = true ↔ (97 ≤ (s.getD k 0).toNat ∧ (s.getD k 0).toNat ≤ 122) ∨ (48 ≤ (s.getD k 0).toNat ∧ (s.getD k 0).toNat ≤ 57) ∨ (s.getD k 0).toNat = 95 := by
        rw [h95]
        simp only [innerB, letterB, digitB, Bool.or_eq_true, decide_eq_true_eq, beq_iff_eq, or_assoc]
      have hw0 := wl_drop (bs := s) (i := 0) (by omega)
      rw [List.drop_zero] at hw0
      have step : ((97 ≤ (s.getD k 0).toNat ∧ (s.getD k 0).toNat ≤ 122) ∨ (1 ≤ k ∧ ((48 ≤ (s.getD k 0).toNat ∧ (s.getD k 0).toNat ≤ 57) ∨ (s.getD k 0).toNat = 95))) →
          (∃ j : Nat, (k : Int) + 1 = j ∧ j ≤ s.length ∧ (1 ≤ j → j ≤ wl s)) ∧ ((s.length : Int) - (k + 1)).toNat < ((s.length : Int) - k).toNat := fun hp => by
        refine ⟨⟨k + 1, by omega, by omega, fun _ => ?_⟩, by omega⟩
        by_cases h0 : k = 0
        · subst h0
          rw [hw0, if_pos (by rw [hlet]; exact decide_eq_true (by omega))]
          omega
        · have := wl_next (bs := s) (i := 0) (k := k) (by rw [List.drop_zero]; exact hk2 (by omega)) (by omega) (by omega) (by rw [Nat.zero_add, hin]; omega)
          rw [List.drop_zero] at this
          omega
      have stop : ¬((97 ≤ (s.getD k 0).toNat ∧ (s.getD k 0).toNat ≤ 122) ∨ (1 ≤ k ∧ ((48 ≤ (s.getD k 0).toNat ∧ (s.getD k 0).toNat ≤ 57) ∨ (s.getD k 0).toNat = 95))) → false = nameR s := fun hp => by
        have hne : wl s ≠ s.length := by
          by_cases h0 : k = 0
          · subst h0
            rw [hw0, if_neg (by rw [hlet]; simp only [decide_eq_true_eq]; omega)]
            omega
          · have := wl_stop (bs := s) (i := 0) (k := k) (by rw [List.drop_zero]; exact hk2 (by omega)) (by omega) (fun _ => by
              rw [Nat.zero_add]
              cases hb : innerB (s.getD k 0) with
              | false => rfl
              | true => rw [hin] at hb; omega)
            rw [List.drop_zero] at this
            omega
        simp [nameR, hne]
      generalize (s.getD k 0).toNat = c at *
      repeat' (first | exact step (by omega) | exact stop (by omega) | refine And.intro (fun _ => ?_) (fun _ => ?_))
    · have hk3 : k = s.length := by omega
      have hp : 0 < s.length := List.length_pos_iff.2 hne
      have : wl s = s.length := by have := hk2 (by omega); omega
      simp [nameR, hne, hk, this]
      omega
end Go.Abs

namespace Go.Abs
open Go.Proofs

theorem contains_iff (t sub : List UInt8) : Lib.contains t sub = true ↔ ∃ i, i ≤ t.length ∧ Lib.occAt t sub i = true := by
  unfold Lib.contains
  rw [decide_eq_true_eq]
  constructor
  · intro h
    by_cases hex : ∃ i, i ≤ t.length ∧ Lib.occAt t sub i = true
    · exact hex
    · have := Lib.index_none (s := t) (sub := sub) fun j hj => by
        cases hb : Lib.occAt t sub j with
        | false => rfl
        | true => exact absurd ⟨j, hj, hb⟩ hex
      omega
  · intro h
    obtain ⟨n, ⟨hn, ho⟩, hmin⟩ := exists_least h
    have := Lib.index_first (s := t) (sub := sub) hn ho fun j hj => by
      cases hb : Lib.occAt t sub j with
      | false => rfl
      | true => have := hmin j ⟨by omega, hb⟩; omega
    omega

def txt (ws : List (List UInt8)) : List UInt8 := 32 :: ws.flatMap fun w => w ++ [32]
theorem txt_cons (w : List UInt8) (ws : List (List UInt8)) : txt (w :: ws) = 32 :: (w ++ txt ws) := by
  simp [txt]
theorem pre_word : ∀ {s w r q : List UInt8}, 32 ∉ s → 32 ∉ w → (s ++ 32 :: r = w ++ 32 :: q) → s = w
  | [], [], _, _, _, _, _ => rfl
  | [], c :: w, _, _, _, hw, h => by
    injection h with h1 _
    exact absurd (by rw [← h1]; exact List.mem_cons_self) hw
  | c :: s, [], _, _, hs, _, h => by
    injection h with h1 _
    exact absurd (by rw [h1]; exact List.mem_cons_self) hs
  | c :: s, d :: w, r, q, hs, hw, h => by
    simp only [List.cons_append, List.cons.injEq] at h
    rw [h.1, pre_word (fun hm => hs (List.mem_cons_of_mem _ hm)) (fun hm => hw (List.mem_cons_of_mem _ hm)) h.2]

theorem occ_txt {s : List UInt8} (hs : 32 ∉ s) (hne : s ≠ []) : ∀ (ws : List (List UInt8)), (∀ w ∈ ws, 32 ∉ w) → ((∃ i, ([32] ++ s ++ [32]) <+: (txt ws).drop i) ↔ s ∈ ws)
  | [], _ => by
    simp only [List.not_mem_nil, iff_false]
    rintro ⟨i, h⟩
    have := h.length_le
    have hp : 0 < s.length := List.length_pos_iff.2 hne
    simp [txt] at this
    omega
  | w :: ws, hw => by
    have ih := occ_txt hs hne ws fun x hx => hw x (List.mem_cons_of_mem _ hx)
    rw [txt_cons]
    constructor
    · rintro ⟨i, h⟩
      match i with
      | 0 =>
        obtain ⟨r, hr⟩ := h
        simp only [List.drop_zero, List.cons_append, List.nil_append, List.append_assoc, List.cons.injEq, true_and, txt] at hr
        rw [pre_word hs (hw w List.mem_cons_self) hr]
        exact List.mem_cons_self
      | i + 1 =>
        simp only [List.drop_succ_cons] at h
        by_cases hi : i < w.length
        · obtain ⟨r, hr⟩ := h
          rw [List.drop_append_of_le_length (by omega), List.drop_eq_getElem_cons hi] at hr
          simp only [List.cons_append, List.nil_append, List.cons.injEq] at hr
          exact absurd (hr.1 ▸ List.getElem_mem hi) (hw w List.mem_cons_self)
        · have e : (w ++ txt ws).drop i = (txt ws).drop (i - w.length) := by
            rw [List.drop_append, List.drop_eq_nil_of_le (by omega), List.nil_append]
          rw [e] at h
          exact List.mem_cons_of_mem _ (ih.1 ⟨_, h⟩)
    · intro h
      rcases List.mem_cons.1 h with rfl | h
      · exact ⟨0, ⟨txt ws |>.tail, by simp [txt]⟩⟩
      · obtain ⟨i, hi⟩ := ih.2 h
        refine ⟨i + w.length + 1, ?_⟩
        simp only [List.drop_succ_cons]
        rw [List.drop_append, List.drop_eq_nil_of_le (by omega), List.nil_append, show i + w.length - w.length = i by omega]
        exact hi

theorem contains_txt {s : List UInt8} (hs : 32 ∉ s) (hne : s ≠ []) (ws : List (List UInt8)) (hw : ∀ w ∈ ws, 32 ∉ w) : Lib.contains (txt ws) ([32] ++ s ++ [32]) = ws.contains s := by
  rw [Bool.eq_iff_iff, contains_iff, List.contains_iff_mem, ← occ_txt hs hne ws hw]
  constructor
  · rintro ⟨i, _, h⟩
    exact ⟨i, List.isPrefixOf_iff_prefix.1 h⟩
  · rintro ⟨i, h⟩
    refine ⟨i, ?_, List.isPrefixOf_iff_prefix.2 h⟩
    have := h.length_le
    simp only [List.length_append, List.length_drop, List.length_cons, List.length_nil] at this
    omega

theorem contains_one {s : List UInt8} : Lib.contains s [32] = true ↔ 32 ∈ s := by
  rw [contains_iff]
  constructor
  · rintro ⟨i, hi, h⟩
    have := List.isPrefixOf_iff_prefix.1 h
    obtain ⟨r, hr⟩ := this
    exact List.mem_of_mem_drop (i := i) (by rw [← hr]; simp)
  · intro h
    obtain ⟨i, hi, he⟩ := List.mem_iff_getElem.1 h
    refine ⟨i, by omega, List.isPrefixOf_iff_prefix.2 ⟨s.drop (i + 1), ?_⟩⟩
    rw [List.drop_eq_getElem_cons hi, he]
    rfl

theorem kw_no : ∀ w ∈ kwList, (32 : UInt8) ∉ w := by decide
theorem p16 (m : Int) (s : List UInt8) (hs : s.length ≤ 1000000) : PureOk PP (G8 m) XW (tbl lib8) (itbl []) nAn [] 16 [.str s] (.bool (kwR s), []) := by
  constructor
  rw [w16]
  have hc : ∀ t : List UInt8, tbl [(50, sIndexByte), (53, sIndexByteString), (32, sContains)] 32 [.str s, .str t] = some (.bool (Lib.contains s t), []) := fun t => by
    show sContains [.str s, .str t] = _
    simp only [sContains]
    rw [if_pos (by omega)]
  rw [hc]
  have ht : ∀ u, Lib.contains [32, 116, 97, 98, 108, 101, 32, 102, 101, 97, 116, 117, 114, 101, 32, 111, 102, 32, 107, 101, 101, 112, 32, 98, 111, 111, 108, 32, 116, 101, 120, 116, 32, 107, 101, 121, 32, 105, 110, 116, 32, 100, 101, 99, 32, 105, 102, 32, 116, 104, 101, 110, 32, 101, 108, 115, 101, 32, 100, 101, 102, 97, 117, 108, 116, 32, 111, 114, 32, 97, 110, 100, 32, 110, 111, 116, 32, 116, 114, 117, 101, 32, 102, 97, 108, 115, 101, 32, 110, 117, 108, 108, 32, 99, 111, 117, 110, 116, 32, 115, 117, 109, 32, 109, 101, 97, 110, 32, 109, 105, 110, 32, 109, 97, 120, 32, 102, 105, 114, 115, 116, 32, 108, 97, 115, 116, 32, 100, 105, 115, 116, 105, 110, 99, 116, 32, 113, 117, 97, 110, 116, 105, 108, 101, 32, 100, 101, 99, 97, 121, 32, 97, 108, 108, 32, 115, 108, 105, 100, 105, 110, 103, 32, 116, 117, 109, 98, 108, 105, 110, 103, 32, 115, 101, 115, 115, 105, 111, 110, 32, 119, 104, 101, 114, 101, 32] u = Lib.contains (txt kwList) u := fun u => rfl
  simp only [ht]
  simp only [callIs_iff, retIs_iff, Prod.mk.injEq, AV.bool.injEq, Option.some.injEq, and_true, exists_eq_left']
  refine ⟨fun h1 => ⟨fun h2 => ?_, fun h2 => ⟨by omega, by simp; omega, ?_⟩⟩, fun h1 => ?_⟩
  · have hm := contains_one.1 h2
    cases hk : kwR s with
    | false => rfl
    | true => exact absurd hm (kw_no s (List.contains_iff_mem.1 hk))
  · have hne : s ≠ [] := by simpa using h1
    have hm : 32 ∉ s := fun h => by rw [contains_one.2 h] at h2; cases h2
    rw [contains_txt hm hne kwList kw_no]
    exact ⟨fun h => h.symm, fun h => h.symm⟩
  · have : s = [] := by simpa using h1
    subst this
    rfl
end Go.Abs

namespace Go.Abs
open Go.Proofs
def e12_0 : AV × List (Nat × TypeId) := (AV.tup
      [AV.sl 3
          [AV.agg [AV.int IntKind.i64 1, AV.str [UInt8.ofNat (↑(UInt8.toNat 97) : Int).toNat], AV.int IntKind.i64 0],
            AV.agg [AV.int IntKind.i64 5, AV.str [UInt8.ofNat (↑(UInt8.toNat 60) : Int).toNat, UInt8.ofNat (↑(UInt8.toNat 61) : Int).toNat], AV.int IntKind.i64 1],
            AV.agg
              [AV.int IntKind.i64 3, AV.str [UInt8.ofNat (↑(UInt8.toNat 49) : Int).toNat, UInt8.ofNat (↑(UInt8.toNat 46) : Int).toNat, UInt8.ofNat (↑(UInt8.toNat 53) : Int).toNat],
                AV.int IntKind.i64 3],
            AV.agg [AV.int IntKind.i64 6, AV.str [], AV.int IntKind.i64 13]]
          (Own.tok 0),
        AV.sl 0 [] Own.nil, AV.int IntKind.i64 0],
    [([AV.agg [AV.int IntKind.i64 1, AV.str [UInt8.ofNat (↑(UInt8.toNat 97) : Int).toNat], AV.int IntKind.i64 0],
              AV.agg [AV.int IntKind.i64 5, AV.str [UInt8.ofNat (↑(UInt8.toNat 60) : Int).toNat, UInt8.ofNat (↑(UInt8.toNat 61) : Int).toNat], AV.int IntKind.i64 1],
              AV.agg
                [AV.int IntKind.i64 3, AV.str [UInt8.ofNat (↑(UInt8.toNat 49) : Int).toNat, UInt8.ofNat (↑(UInt8.toNat 46) : Int).toNat, UInt8.ofNat (↑(UInt8.toNat 53) : Int).toNat],
                  AV.int IntKind.i64 3]].length +
          [AV.agg [AV.int IntKind.i64 6, AV.str [], AV.int IntKind.i64 13]].length,
        38)])
set_option maxRecDepth 100000 in
theorem r12_0 (m : Int) : (evs PP (G8 m) (tbl lib8b) (fun _ => []) 200).1 12 [bytesA [97, 60, 61, 49, 46, 53, 32, 35, 32, 110, 111, 116, 101]] = some e12_0 := by kernel_rfl
def e12_1 : AV × List (Nat × TypeId) := (AV.tup
      [AV.sl 3
          [AV.agg [AV.int IntKind.i64 1, AV.str [UInt8.ofNat (↑(UInt8.toNat 120) : Int).toNat], AV.int IntKind.i64 0],
            AV.agg [AV.int IntKind.i64 5, AV.str [UInt8.ofNat (↑(UInt8.toNat 61) : Int).toNat, UInt8.ofNat (↑(UInt8.toNat 61) : Int).toNat], AV.int IntKind.i64 1],
            AV.agg [AV.int IntKind.i64 5, AV.str [UInt8.ofNat (↑(UInt8.toNat 45) : Int).toNat], AV.int IntKind.i64 3],
            AV.agg [AV.int IntKind.i64 2, AV.str [UInt8.ofNat (↑(UInt8.toNat 49) : Int).toNat], AV.int IntKind.i64 4],
            AV.agg [AV.int IntKind.i64 5, AV.str [UInt8.ofNat (↑(UInt8.toNat 59) : Int).toNat], AV.int IntKind.i64 5], AV.agg [AV.int IntKind.i64 6, AV.str [], AV.int IntKind.i64 6]]
          (Own.tok 0),
        AV.sl 0 [] Own.nil, AV.int IntKind.i64 0],
    [([AV.agg [AV.int IntKind.i64 1, AV.str [UInt8.ofNat (↑(UInt8.toNat 120) : Int).toNat], AV.int IntKind.i64 0],
              AV.agg [AV.int IntKind.i64 5, AV.str [UInt8.ofNat (↑(UInt8.toNat 61) : Int).toNat, UInt8.ofNat (↑(UInt8.toNat 61) : Int).toNat], AV.int IntKind.i64 1],
              AV.agg [AV.int IntKind.i64 5, AV.str [UInt8.ofNat (↑(UInt8.toNat 45) : Int).toNat], AV.int IntKind.i64 3],
              AV.agg [AV.int IntKind.i64 2, AV.str [UInt8.ofNat (↑(UInt8.toNat 49) : Int).toNat], AV.int IntKind.i64 4],
              AV.agg [AV.int IntKind.i64 5, AV.str [UInt8.ofNat (↑(UInt8.toNat 59) : Int).toNat], AV.int IntKind.i64 5]].length +
          [AV.agg [AV.int IntKind.i64 6, AV.str [], AV.int IntKind.i64 6]].length,
        38)])
set_option maxRecDepth 100000 in
theorem r12_1 (m : Int) : (evs PP (G8 m) (tbl lib8b) (fun _ => []) 200).1 12 [bytesA [120, 61, 61, 45, 49, 59]] = some e12_1 := by kernel_rfl
def e12_2 : AV × List (Nat × TypeId) := (AV.tup
      [AV.sl 3
          [AV.agg [AV.int IntKind.i64 2, AV.str [UInt8.ofNat (↑(UInt8.toNat 49) : Int).toNat, UInt8.ofNat (↑(UInt8.toNat 50) : Int).toNat], AV.int IntKind.i64 0],
            AV.agg [AV.int IntKind.i64 1, AV.str [UInt8.ofNat (↑(UInt8.toNat 97) : Int).toNat, UInt8.ofNat (↑(UInt8.toNat 98) : Int).toNat], AV.int IntKind.i64 2],
            AV.agg [AV.int IntKind.i64 2, AV.str [UInt8.ofNat (↑(UInt8.toNat 49) : Int).toNat], AV.int IntKind.i64 5], AV.agg [AV.int IntKind.i64 6, AV.str [], AV.int IntKind.i64 7]]
          (Own.tok 0),
        AV.sl 2 [AV.agg [AV.int IntKind.i64 6, AV.int IntKind.i64 80]] Own.no, AV.int IntKind.i64 0],
    [([AV.agg [AV.int IntKind.i64 2, AV.str [UInt8.ofNat (↑(UInt8.toNat 49) : Int).toNat, UInt8.ofNat (↑(UInt8.toNat 50) : Int).toNat], AV.int IntKind.i64 0],
              AV.agg [AV.int IntKind.i64 1, AV.str [UInt8.ofNat (↑(UInt8.toNat 97) : Int).toNat, UInt8.ofNat (↑(UInt8.toNat 98) : Int).toNat], AV.int IntKind.i64 2],
              AV.agg [AV.int IntKind.i64 2, AV.str [UInt8.ofNat (↑(UInt8.toNat 49) : Int).toNat], AV.int IntKind.i64 5]].length +
          [AV.agg [AV.int IntKind.i64 6, AV.str [], AV.int IntKind.i64 7]].length,
        38)])
set_option maxRecDepth 100000 in
theorem r12_2 (m : Int) : (evs PP (G8 m) (tbl lib8b) (fun _ => []) 200).1 12 [bytesA [49, 50, 97, 98, 32, 49, 46]] = some e12_2 := by kernel_rfl
def e12_3 : AV × List (Nat × TypeId) := (AV.tup
      [AV.sl 3
          [AV.agg [AV.int IntKind.i64 1, AV.str [UInt8.ofNat (↑(UInt8.toNat 97) : Int).toNat], AV.int IntKind.i64 0],
            AV.agg [AV.int IntKind.i64 1, AV.str [UInt8.ofNat (↑(UInt8.toNat 98) : Int).toNat], AV.int IntKind.i64 5], AV.agg [AV.int IntKind.i64 6, AV.str [], AV.int IntKind.i64 8]]
          (Own.tok 0),
        AV.sl 2 [AV.agg [AV.int IntKind.i64 2, AV.int IntKind.i64 80], AV.agg [AV.int IntKind.i64 7, AV.int IntKind.i64 80]] Own.no, AV.int IntKind.i64 0],
    [([AV.agg [AV.int IntKind.i64 1, AV.str [UInt8.ofNat (↑(UInt8.toNat 97) : Int).toNat], AV.int IntKind.i64 0],
              AV.agg [AV.int IntKind.i64 1, AV.str [UInt8.ofNat (↑(UInt8.toNat 98) : Int).toNat], AV.int IntKind.i64 5]].length +
          [AV.agg [AV.int IntKind.i64 6, AV.str [], AV.int IntKind.i64 8]].length,
        38)])
set_option maxRecDepth 100000 in
theorem r12_3 (m : Int) : (evs PP (G8 m) (tbl lib8b) (fun _ => []) 200).1 12 [bytesA [97, 32, 36, 36, 32, 98, 32, 36]] = some e12_3 := by kernel_rfl
def e12_4 : AV × List (Nat × TypeId) := (AV.tup
      [AV.sl 3
          [AV.agg
              [AV.int IntKind.i64 4, AV.str [UInt8.ofNat (↑(UInt8.toNat 97) : Int).toNat, UInt8.ofNat (↑(UInt8.toNat 32) : Int).toNat, UInt8.ofNat (↑(UInt8.toNat 98) : Int).toNat],
                AV.int IntKind.i64 0],
            AV.agg [AV.int IntKind.i64 1, AV.str [UInt8.ofNat (↑(UInt8.toNat 99) : Int).toNat], AV.int IntKind.i64 7], AV.agg [AV.int IntKind.i64 6, AV.str [], AV.int IntKind.i64 8]]
          (Own.tok 0),
        AV.sl 2 [AV.agg [AV.int IntKind.i64 6, AV.int IntKind.i64 80]] Own.no, AV.int IntKind.i64 0],
    [([AV.agg
                [AV.int IntKind.i64 4, AV.str [UInt8.ofNat (↑(UInt8.toNat 97) : Int).toNat, UInt8.ofNat (↑(UInt8.toNat 32) : Int).toNat, UInt8.ofNat (↑(UInt8.toNat 98) : Int).toNat],
                  AV.int IntKind.i64 0],
              AV.agg [AV.int IntKind.i64 1, AV.str [UInt8.ofNat (↑(UInt8.toNat 99) : Int).toNat], AV.int IntKind.i64 7]].length +
          [AV.agg [AV.int IntKind.i64 6, AV.str [], AV.int IntKind.i64 8]].length,
        38)])
set_option maxRecDepth 100000 in
theorem r12_4 (m : Int) : (evs PP (G8 m) (tbl lib8b) (fun _ => []) 200).1 12 [bytesA [34, 97, 32, 98, 34, 32, 34, 99]] = some e12_4 := by kernel_rfl
def e12_5 : AV × List (Nat × TypeId) := (AV.tup [AV.sl 3 [AV.agg [AV.int IntKind.i64 6, AV.str [], AV.int IntKind.i64 9]] (Own.tok 0), AV.sl 2 [AV.agg [AV.int IntKind.i64 0, AV.int IntKind.i64 3]] Own.no, AV.int IntKind.i64 0],
    [(0 + [AV.agg [AV.int IntKind.i64 6, AV.str [], AV.int IntKind.i64 9]].length, 38)])
set_option maxRecDepth 100000 in
theorem r12_5 (m : Int) : (evs PP (G8 m) (tbl lib8b) (fun _ => []) 200).1 12 [bytesA [48, 46, 49, 50, 51, 52, 53, 54, 55]] = some e12_5 := by kernel_rfl
def e12_6 : AV × List (Nat × TypeId) := (AV.tup
      [AV.sl 3 [AV.agg [AV.int IntKind.i64 1, AV.str [UInt8.ofNat (↑(UInt8.toNat 97) : Int).toNat], AV.int IntKind.i64 0], AV.agg [AV.int IntKind.i64 6, AV.str [], AV.int IntKind.i64 1]] (Own.tok 0),
        AV.sl 0 [] Own.nil, AV.int IntKind.i64 0],
    [([AV.agg [AV.int IntKind.i64 1, AV.str [UInt8.ofNat (↑(UInt8.toNat 97) : Int).toNat], AV.int IntKind.i64 0]].length + [AV.agg [AV.int IntKind.i64 6, AV.str [], AV.int IntKind.i64 1]].length,
        38)])
set_option maxRecDepth 100000 in
theorem r12_6 (m : Int) : (evs PP (G8 m) (tbl lib8b) (fun _ => []) 200).1 12 [bytesA [97]] = some e12_6 := by kernel_rfl
def e12_7 : AV × List (Nat × TypeId) := (AV.tup
      [AV.sl 3
          [AV.agg
              [AV.int IntKind.i64 4, AV.str [UInt8.ofNat (↑(UInt8.toNat 98) : Int).toNat, UInt8.ofNat (↑(UInt8.toNat 32) : Int).toNat, UInt8.ofNat (↑(UInt8.toNat 99) : Int).toNat],
                AV.int IntKind.i64 0],
            AV.agg [AV.int IntKind.i64 6, AV.str [], AV.int IntKind.i64 5]]
          (Own.tok 0),
        AV.sl 0 [] Own.nil, AV.int IntKind.i64 0],
    [([AV.agg
                [AV.int IntKind.i64 4, AV.str [UInt8.ofNat (↑(UInt8.toNat 98) : Int).toNat, UInt8.ofNat (↑(UInt8.toNat 32) : Int).toNat, UInt8.ofNat (↑(UInt8.toNat 99) : Int).toNat],
                  AV.int IntKind.i64 0]].length +
          [AV.agg [AV.int IntKind.i64 6, AV.str [], AV.int IntKind.i64 5]].length,
        38)])
set_option maxRecDepth 100000 in
theorem r12_7 (m : Int) : (evs PP (G8 m) (tbl lib8b) (fun _ => []) 200).1 12 [bytesA [34, 98, 32, 99, 34]] = some e12_7 := by kernel_rfl
def e12_8 : AV × List (Nat × TypeId) := (AV.tup [AV.sl 3 [AV.agg [AV.int IntKind.i64 6, AV.str [], AV.int IntKind.i64 1]] (Own.tok 0), AV.sl 2 [AV.agg [AV.int IntKind.i64 0, AV.int IntKind.i64 80]] Own.no, AV.int IntKind.i64 0],
    [(0 + [AV.agg [AV.int IntKind.i64 6, AV.str [], AV.int IntKind.i64 1]].length, 38)])
set_option maxRecDepth 100000 in
theorem r12_8 (m : Int) : (evs PP (G8 m) (tbl lib8b) (fun _ => []) 200).1 12 [bytesA [65]] = some e12_8 := by kernel_rfl
def tab12 : List (List UInt8 × (AV × List (Nat × TypeId))) := [([97, 60, 61, 49, 46, 53, 32, 35, 32, 110, 111, 116, 101], e12_0), ([120, 61, 61, 45, 49, 59], e12_1), ([49, 50, 97, 98, 32, 49, 46], e12_2), ([97, 32, 36, 36, 32, 98, 32, 36], e12_3), ([34, 97, 32, 98, 34, 32, 34, 99], e12_4), ([48, 46, 49, 50, 51, 52, 53, 54, 55], e12_5), ([97], e12_6), ([34, 98, 32, 99, 34], e12_7), ([65], e12_8)]
theorem run12 (m : Int) : ∀ p ∈ tab12, (evs PP (G8 m) (tbl lib8b) (fun _ => []) 200).1 12 [bytesA p.1] = some p.2 := by
  simp only [tab12, List.forall_mem_cons]
  exact ⟨r12_0 m, r12_1 m, r12_2 m, r12_3 m, r12_4 m, r12_5 m, r12_6 m, r12_7 m, r12_8 m, fun p h => absurd h (by simp)⟩
end Go.Abs

namespace Go.Abs
open Go.Proofs
def s12c : Spec := fun args => match args with
  | [.sl sz es .no] => if sz = 1 then match unBytes es with
    | some bs => tab12.lookup bs
    | none => none else none
  | _ => none
theorem lookup_mem {α β : Type} [BEq α] [LawfulBEq α] : ∀ {l : List (α × β)} {a : α} {b : β}, l.lookup a = some b → (a, b) ∈ l
  | [], a, b, h => by simp at h
  | (x, y) :: l, a, b, h => by
    rw [List.lookup_cons] at h
    split at h
    · rename_i e
      injection h with h
      have := eq_of_beq e
      subst this; subst h
      exact List.mem_cons_self
    · exact List.mem_cons_of_mem _ (lookup_mem h)
set_option maxRecDepth 100000 in
theorem o12c (m : Int) : SpecOk PP (G8 m) 12 s12c := spec_run mixed8 (lib8b_ok m) fun args r h => by
  unfold s12c at h
  split at h
  · rename_i sz es
    split at h
    · rename_i hs
      subst hs
      split at h
      · rename_i bs hb
        obtain rfl := unBytes_some hb
        exact ⟨200, run12 m (bs, r) (lookup_mem h)⟩
      · cases h
    · cases h
  · cases h
def lib8c : List (FuncId × Spec) := (12, s12c) :: lib8b
theorem lib8c_ok (m : Int) : CalleeOk PP (G8 m) (tbl lib8c) := tbl_cons (o12c m) (lib8b_ok m)
set_option maxRecDepth 100000 in
theorem run11 (m : Int) : (evs PP (G8 m) (tbl lib8c) (fun _ => []) 100).1 11 [] = some (.bool true, []) := by kernel_rfl
def s11 : Spec := fun args => match args with
  | [] => some (.bool true, [])
  | _ => none
theorem o11 (m : Int) : SpecOk PP (G8 m) 11 s11 := spec_run mixed8 (lib8c_ok m) fun args r h => by
  unfold s11 at h
  split at h
  · injection h with h; subst h; exact ⟨100, run11 m⟩
  · cases h
end Go.Abs

namespace Go.Abs
open Go.Proofs

theorem p49 (m n : Int) : PureOk PP (G8 m) X1 (tbl []) (itbl []) ⟨nA, nA⟩ [] 49 [.int .u8 n] (.bool (decide (97 ≤ n ∧ n ≤ 122)), []) := by
  constructor
  rw [w49]
  simp only [retIs_iff, Prod.mk.injEq, AV.bool.injEq, and_true, decide_eq_true_eq, decide_eq_false_iff_not]
  refine ⟨fun h1 => ⟨fun h2 => (decide_eq_true (by omega)).symm, fun h2 => (decide_eq_false (by omega)).symm⟩, fun h1 => (decide_eq_false (by omega)).symm⟩
theorem p44 (m n : Int) : PureOk PP (G8 m) X1 (tbl []) (itbl []) ⟨nA, nA⟩ [] 44 [.int .u8 n] (.bool (decide (48 ≤ n ∧ n ≤ 57)), []) := by
  constructor
  rw [w44]
  simp only [retIs_iff, Prod.mk.injEq, AV.bool.injEq, and_true, decide_eq_true_eq, decide_eq_false_iff_not]
  refine ⟨fun h1 => ⟨fun h2 => (decide_eq_true (by omega)).symm, fun h2 => (decide_eq_false (by omega)).symm⟩, fun h1 => (decide_eq_false (by omega)).symm⟩

theorem o49 (m : Int) : SpecOk PP (G8 m) 49 s49 := spec_of (X := X1) (m := []) mixed8 tbl_nil itbl_nil fun args r h => by
  unfold s49 at h
  split at h
  · injection h with h; subst h; exact ⟨⟨nA, nA⟩, p49 m _⟩
  · cases h
theorem o44 (m : Int) : SpecOk PP (G8 m) 44 s44 := spec_of (X := X1) (m := []) mixed8 tbl_nil itbl_nil fun args r h => by
  unfold s44 at h
  split at h
  · injection h with h; subst h; exact ⟨⟨nA, nA⟩, p44 m _⟩
  · cases h
theorem o33 (m : Int) : SpecOk PP (G8 m) 33 s33' := spec_of (X := X1) (m := []) mixed8 (tbl_cons (o49 m) (tbl_cons (o44 m) tbl_nil)) itbl_nil fun args r h => by
  unfold s33' at h
  split at h
  · rename_i sz es n
    split at h
    · rename_i hsz
      subst hsz
      split at h
      · rename_i bs hb
        obtain rfl := unBytes_some hb
        split at h
        · rename_i hc
          injection h with h
          subst h
          have := p33 m bs n.toNat hc.2.1 hc.2.2
          rw [Int.toNat_of_nonneg hc.1] at this
          exact ⟨a33 bs n.toNat, this⟩
        · cases h
      · cases h
    · cases h
  · cases h
theorem o17 (m : Int) : SpecOk PP (G8 m) 17 s17 := spec_of (X := XW) (m := []) mixed8 tbl_nil itbl_nil fun args r h => by
  unfold s17 at h
  split at h
  · injection h with h; subst h; exact ⟨nAn, p17 m _⟩
  · cases h
theorem o16 (m : Int) : SpecOk PP (G8 m) 16 s16 := spec_of (X := XW) (m := []) mixed8 (lib8_ok m) itbl_nil fun args r h => by
  unfold s16 at h
  split at h
  · split at h
    · rename_i hl
      injection h with h; subst h; exact ⟨nAn, p16 m _ hl⟩
    · cases h
  · cases h
theorem o18 (m : Int) : SpecOk PP (G8 m) 18 s18 := spec_of (X := XW) (m := []) mixed8 (tbl_cons (o16 m) tbl_nil) itbl_nil fun args r h => by
  unfold s18 at h
  split at h
  · split at h
    · rename_i hl
      injection h with h; subst h; exact ⟨a18 _, p18 m _ hl⟩
    · cases h
  · cases h
theorem o19 (m : Int) : SpecOk PP (G8 m) 19 s18 := spec_of (X := XW) (m := []) mixed8 (tbl_cons (o17 m) (tbl_cons (o33 m) tbl_nil)) itbl_nil fun args r h => by
  unfold s18 at h
  split at h
  · split at h
    · injection h with h; subst h; exact ⟨nAn, p19 m _⟩
    · cases h
  · cases h
def s4 : Spec := fun args => match args with
  | [.str _] => some (.bool true, [])
  | _ => none
theorem o4 (m : Int) : SpecOk PP (G8 m) 4 s4 := spec_of (X := XW) (m := []) mixed8 (tbl_cons (o11 m) (tbl_cons (o16 m) (tbl_cons (o17 m) (tbl_cons (o18 m) (tbl_cons (o19 m) tbl_nil))))) itbl_nil fun args r h => by
  unfold s4 at h
  split at h
  · injection h with h; subst h; exact ⟨nAn, p4 m _ s11 rfl⟩
  · cases h
end Go.Abs

namespace Go.Abs
open Go.Proofs L8

theorem tk_at {P : Program} {t : TypeId} (ha : aggA P t = some false) {s : Nat} (hs : sizeA P t = some s) {l : List TI} {i : Nat} (h : i < l.length) :
    takeAt P t (tksL l) i 0 = some (.int .i64 l[i].kind) ∧ takeAt P t (tksL l) i 1 = some (.str l[i].text) ∧ takeAt P t (tksL l) i 2 = some (.int .i64 l[i].at_) := by
  have he : (tksL l)[i]? = some (tiA l[i]) := by simp [h]
  simp only [takeAt, he, ha, hs, takeA, tiA, AV.cells]
  exact ⟨rfl, rfl, rfl⟩
theorem pb_at {P : Program} {t : TypeId} (ha : aggA P t = some true) (hs : sizeA P t = some 2) {l : List PI} {i : Nat} (h : i < l.length) :
    takeAt P t (pbsL l) i 0 = some (piA l[i]) := by
  have he : (pbsL l)[i]? = some (piA l[i]) := by simp [h]
  simp only [takeAt, he, ha, hs, takeA, piA, AV.cells]
  rfl
theorem agg3 : aggA PP 3 = some false := by kernel_rfl
theorem size3 : sizeA PP 3 = some 1 := by kernel_rfl
theorem agg9 : aggA PP 9 = some false := by kernel_rfl
theorem size9 : sizeA PP 9 = some 1 := by kernel_rfl
theorem agg40 : aggA PP 40 = some true := by kernel_rfl
theorem size40 : sizeA PP 40 = some 2 := by kernel_rfl
theorem tksL_length {l : List TI} : (tksL l).length = l.length := List.length_map ..
theorem pbsL_length {l : List PI} : (pbsL l).length = l.length := List.length_map ..
theorem all2B_len {α : Type} {p : α → α → Bool} : ∀ {l k : List α}, all2B p l k = true → l.length = k.length
  | [], [], _ => rfl
  | [], b :: k, h => by simp [all2B] at h
  | a :: l, [], h => by simp [all2B] at h
  | a :: l, b :: k, h => by
    simp only [all2B, Bool.and_eq_true] at h
    simp [all2B_len h.2]
theorem all2B_succ {α : Type} {p : α → α → Bool} : ∀ {l k : List α} {i : Nat} (h1 : i < l.length) (h2 : i < k.length), all2B p (l.take (i + 1)) (k.take (i + 1)) = (all2B p (l.take i) (k.take i) && p l[i] k[i])
  | a :: l, b :: k, 0, h1, h2 => by simp [all2B]
  | a :: l, b :: k, i + 1, h1, h2 => by
    have ih := all2B_succ (p := p) (l := l) (k := k) (i := i) (by simpa using h1) (by simpa using h2)
    simp only [List.take_succ_cons, all2B, List.getElem_cons_succ]
    rw [ih, Bool.and_assoc]
theorem all2B_at {α : Type} {p : α → α → Bool} : ∀ {l k : List α} {i : Nat} (h1 : i < l.length) (h2 : i < k.length), all2B p l k = true → p l[i] k[i] = true
  | a :: l, b :: k, 0, h1, h2, h => by simp only [all2B, Bool.and_eq_true] at h; exact h.1
  | a :: l, b :: k, i + 1, h1, h2, h => by
    simp only [all2B, Bool.and_eq_true] at h
    exact all2B_at (l := l) (k := k) (i := i) (by simpa using h1) (by simpa using h2) h.2
theorem all2B_no {α : Type} {p : α → α → Bool} {l k : List α} {i : Nat} (h1 : i < l.length) (h2 : i < k.length) (h : p l[i] k[i] = false) : all2B p l k = false := by
  cases hx : all2B p l k with
  | false => rfl
  | true => rw [all2B_at h1 h2 hx] at h; cases h
theorem all2B_refl {α : Type} {p : α → α → Bool} : ∀ {l : List α}, (∀ a ∈ l, p a a = true) → all2B p l l = true
  | [], _ => rfl
  | a :: l, h => by
    simp only [all2B, Bool.and_eq_true]
    exact ⟨h a List.mem_cons_self, all2B_refl fun b hb => h b (List.mem_cons_of_mem _ hb)⟩
theorem p14 (m : Int) (l k : List TI) (far : Bool) (more : Int) (hl : l.length ≤ 1000000) (_hk : k.length ≤ 1000000) : PureOk PP (G8 m) XS (tbl []) (itbl []) (a14 l k far more) [] 14 [.sl 3 (tksL l) .no, .sl 3 (tksL k) .no, .bool far, .int .i64 more] (.bool (all2B (sameT far more) l k), []) := by
  constructor
  rw [w14]
  simp only [valsAre_iff, stIs_iff, retIs_iff, tksL_length, Prod.mk.injEq, AV.int.injEq, AV.bool.injEq, List.cons.injEq, and_true, true_and, decide_eq_true_eq, decide_eq_false_iff_not, beq_iff_eq, beq_eq_false_iff_ne, bne_iff_ne, bne_eq_false_iff_eq, Bool.not_eq_true', Bool.not_eq_false', Int.toNat_natCast, ne_eq]
  refine ⟨fun h => ?_, fun h => ⟨⟨0, rfl, Nat.zero_le _, by simp [all2B]⟩, fun x hx => ⟨fun hf => ⟨fun hlt => ?_, fun hge => ?_⟩, fun hf => ⟨fun hlt => ?_, fun hge => ?_⟩⟩⟩⟩
  · cases hx : all2B (sameT far more) l k with
    | false => rfl
    | true => have := all2B_len hx; omega
  · have h1 : x < l.length := by omega
    have h2 : x < k.length := by omega
    obtain ⟨k1, k2, k3⟩ := tk_at agg3 size3 h1
    obtain ⟨q1, q2, q3⟩ := tk_at agg3 size3 h2
    obtain ⟨_, t2, _⟩ := tk_at agg9 size9 h1
    obtain ⟨_, u2, _⟩ := tk_at agg9 size9 h2
    have no : sameT far more l[x] k[x] = false → all2B (sameT far more) l k = false := all2B_no h1 h2
    subst hf
    refine ⟨by omega, _, k1, by omega, _, q1, fun hc => (no (by simp [sameT, hc])).symm, fun hc => ⟨by omega, _, t2, by omega, _, u2, fun ht => (no (by simp [sameT, ht])).symm, fun ht => ⟨by omega, _, k3, by omega, _, q3, fun ha => (no (by simp [sameT, ha])).symm, fun ha => ⟨x + 1, by rw [wrap64_in (by omega) (by omega)]; exact ⟨rfl, rfl⟩, ⟨by omega, ?_⟩, by omega⟩⟩⟩⟩
    rw [all2B_succ h1 h2, hx.2]
    simp [sameT, hc, ht, ha]
  · have h1 : x = l.length := by omega
    have h2 : x = k.length := by omega
    have := hx.2
    rw [h1, List.take_length, show l.length = k.length by omega, List.take_length] at this
    exact this.symm
  · have h1 : x < l.length := by omega
    have h2 : x < k.length := by omega
    obtain ⟨k1, k2, k3⟩ := tk_at agg3 size3 h1
    obtain ⟨q1, q2, q3⟩ := tk_at agg3 size3 h2
    obtain ⟨_, t2, _⟩ := tk_at agg9 size9 h1
    obtain ⟨_, u2, _⟩ := tk_at agg9 size9 h2
    have no : sameT far more l[x] k[x] = false → all2B (sameT far more) l k = false := all2B_no h1 h2
    subst hf
    refine ⟨by omega, _, k1, by omega, _, q1, fun hc => (no (by simp [sameT, hc])).symm, fun hc => ⟨by omega, _, t2, by omega, _, u2, fun ht => (no (by simp [sameT, ht])).symm, fun ht => ⟨x + 1, by rw [wrap64_in (by omega) (by omega)]; exact ⟨rfl, rfl⟩, ⟨by omega, ?_⟩, by omega⟩⟩⟩
    rw [all2B_succ h1 h2, hx.2]
    simp [sameT, hc, ht]
  · have h1 : x = l.length := by omega
    have h2 : x = k.length := by omega
    have := hx.2
    rw [h1, List.take_length, show l.length = k.length by omega, List.take_length] at this
    exact this.symm
theorem p15 (m : Int) (l k : List PI) (hl : l.length ≤ 1000000) (_hk : k.length ≤ 1000000) : PureOk PP (G8 m) XS (tbl []) (itbl []) (a15 l k) [] 15 [.sl 2 (pbsL l) .no, .sl 2 (pbsL k) .no] (.bool (all2B (fun a b => decide (a = b)) l k), []) := by
  constructor
  rw [w15]
  simp only [valsAre_iff, stIs_iff, retIs_iff, pbsL_length, Prod.mk.injEq, AV.int.injEq, AV.bool.injEq, List.cons.injEq, and_true, true_and, decide_eq_true_eq, decide_eq_false_iff_not, bne_iff_ne, bne_eq_false_iff_eq, Int.toNat_natCast, ne_eq, Bool.and_true]
  refine ⟨fun h => ?_, fun h => ⟨⟨0, rfl, Nat.zero_le _, rfl⟩, fun x hx => ⟨fun hlt => ?_, fun hge => ?_⟩⟩⟩
  · cases hx : all2B (fun a b => decide (a = b)) l k with
    | false => rfl
    | true => have := all2B_len hx; omega
  · have h1 : x < l.length := by omega
    have h2 : x < k.length := by omega
    refine ⟨by omega, _, _, pb_at agg40 size40 h1, by omega, _, _, pb_at agg40 size40 h2, fun hc => ?_, fun hc => ?_⟩
    · refine (all2B_no h1 h2 ?_).symm
      rw [decide_eq_false_iff_not]
      intro e
      rw [e] at hc
      simp at hc
    · refine ⟨x + 1, by rw [wrap64_in (by omega) (by omega)]; rfl, ⟨by omega, ?_⟩, by omega⟩
      rw [List.take_succ_eq_append_getElem h1, List.take_succ_eq_append_getElem h2, hx.2]
      have e : l[x] = k[x] := by
        simp only [Bool.not_eq_false', Bool.and_eq_true, beq_iff_eq] at hc
        cases hl : l[x] with | mk a b =>
        cases hk : k[x] with | mk a' b' =>
        rw [hl, hk] at hc
        simp only at hc
        rw [hc.1, hc.2]
      rw [e]
  · have h1 : x = l.length := by omega
    have h2 : x = k.length := by omega
    have := hx.2
    rw [h1, List.take_length, show l.length = k.length by omega, List.take_length] at this
    rw [this]
    exact (all2B_refl fun a _ => by simp).symm
theorem o14 (m : Int) : SpecOk PP (G8 m) 14 s14 := spec_of (X := XS) (m := []) mixed8 tbl_nil itbl_nil fun args r h => by
  unfold s14 at h
  split at h
  · split at h
    · rename_i hsz
      obtain ⟨rfl, rfl⟩ := hsz
      split at h
      · rename_i l k h1 h2
        obtain rfl := unL_some (g := tiA) (fun _ _ => unTI_some) h1
        obtain rfl := unL_some (g := tiA) (fun _ _ => unTI_some) h2
        split at h
        · rename_i hc
          injection h with h; subst h; exact ⟨_, p14 m l k _ _ hc.1 hc.2⟩
        · cases h
      · cases h
    · cases h
  · cases h
theorem o15 (m : Int) : SpecOk PP (G8 m) 15 s15 := spec_of (X := XS) (m := []) mixed8 tbl_nil itbl_nil fun args r h => by
  unfold s15 at h
  split at h
  · split at h
    · rename_i hsz
      obtain ⟨rfl, rfl⟩ := hsz
      split at h
      · rename_i l k h1 h2
        obtain rfl := unL_some (g := piA) (fun _ _ => unPI_some) h1
        obtain rfl := unL_some (g := piA) (fun _ _ => unPI_some) h2
        split at h
        · rename_i hc
          injection h with h; subst h; exact ⟨_, p15 m l k hc.1 hc.2⟩
        · cases h
      · cases h
    · cases h
  · cases h
end Go.Abs

namespace Go.Abs
open Go.Proofs L8

theorem scan_ind {P : List UInt8 → Nat → Bool → Prop} (h0 : ∀ a adj, P [] a adj)
    (h1 : ∀ l a adj, l ≠ [] → P (l.drop (piece l).2.1) (a + (piece l).2.1) (adjOf l) → P l a adj) (l : List UInt8) (a : Nat) (adj : Bool) : P l a adj := by
  have key : ∀ n (l : List UInt8) a adj, l.length = n → P l a adj := by
    intro n
    induction n using Nat.strongRecOn with
    | _ n ih =>
      intro l a adj hl
      cases l with
      | nil => exact h0 a adj
      | cons c t =>
        have hp := piece_pos c t
        exact h1 (c :: t) a adj (by simp) (ih _ (by rw [← hl, List.length_drop]; simp only [List.length_cons]; omega) _ _ _ rfl)
  exact key _ l a adj rfl
theorem tkOf_at {l : List UInt8} {a : Nat} {t : Tk} (h : t ∈ tkOf l a) : t.at_ = a := by
  unfold tkOf at h
  split at h
  · simp at h; subst h; rfl
  · simp at h
theorem pbOf_at {l : List UInt8} {a : Nat} {adj : Bool} {t : Pb} (h : t ∈ pbOf l a adj) : t.at_ = a := by
  unfold pbOf at h
  split at h
  · split at h
    · simp at h
    · simp at h; subst h; rfl
  · split at h
    · simp at h
    · simp at h; subst h; rfl
theorem tkOf_len (l : List UInt8) (a : Nat) : (tkOf l a).length ≤ 1 := by unfold tkOf; split <;> simp
theorem pbOf_len (l : List UInt8) (a : Nat) (adj : Bool) : (pbOf l a adj).length ≤ 1 := by unfold pbOf; repeat' split
                                                                                           all_goals simp
structure ScanB (l : List UInt8) (a : Nat) (adj : Bool) : Prop where
  tk : ∀ t ∈ (scan l a adj).1, a ≤ t.at_ ∧ t.at_ < a + l.length
  pb : ∀ t ∈ (scan l a adj).2, a ≤ t.at_ ∧ t.at_ < a + l.length
  ltk : (scan l a adj).1.length ≤ l.length
  lpb : (scan l a adj).2.length ≤ l.length
theorem scanB (l : List UInt8) (a : Nat) (adj : Bool) : ScanB l a adj := by
  refine scan_ind (P := ScanB) (fun a adj => ?_) (fun l a adj hne ih => ?_) l a adj
  · exact ⟨by simp [scan_nil], by simp [scan_nil], by simp [scan_nil], by simp [scan_nil]⟩
  · obtain ⟨i1, i2, i3, i4⟩ := ih
    have hp : 1 ≤ (piece l).2.1 := by cases l with
      | nil => exact absurd rfl hne
      | cons c t => exact piece_pos c t
    have hle := piece_le l
    have h1 := tkOf_len l a
    have h2 := pbOf_len l a adj
    have hl : 0 < l.length := List.length_pos_iff.2 hne
    simp only [List.length_drop] at i1 i2 i3 i4
    refine ⟨fun t ht => ?_, fun t ht => ?_, ?_, ?_⟩
    · rw [scan_step hne] at ht
      rcases List.mem_append.1 ht with ht | ht
      · rw [tkOf_at ht]; omega
      · have := i1 t ht; omega
    · rw [scan_step hne] at ht
      rcases List.mem_append.1 ht with ht | ht
      · rw [pbOf_at ht]; omega
      · have := i2 t ht; omega
    · rw [scan_step hne, List.length_append]; omega
    · rw [scan_step hne, List.length_append]; omega
abbrev toksI (bs : List UInt8) : List TI := (toksL bs).map toTI
abbrev probsI (bs : List UInt8) : List PI := (probsL bs).map toPI
theorem toks_A (bs : List UInt8) : (toksL bs).map tokA = tksL (toksI bs) := by simp [tksL, toksI, tokA_ti, Function.comp_def]
theorem probs_A (bs : List UInt8) : (probsL bs).map pbA = pbsL (probsI bs) := by simp [pbsL, probsI, pbA_pi, Function.comp_def]
theorem toksI_len (bs : List UInt8) : (toksI bs).length ≤ bs.length + 1 := by
  have := (scanB bs 0 false).ltk
  simp [toksI, toksL]; omega
theorem probsI_len (bs : List UInt8) : (probsI bs).length ≤ 32 := by
  simp [probsI, probsL]; omega
theorem toksI_at {bs : List UInt8} {t : TI} (h : t ∈ toksI bs) : 0 ≤ t.at_ ∧ t.at_ ≤ bs.length := by
  simp only [toksI, toksL, List.map_append, List.mem_append, List.mem_map] at h
  rcases h with ⟨u, hu, rfl⟩ | ⟨u, hu, rfl⟩
  · have := (scanB bs 0 false).tk u hu
    simp only [toTI]; omega
  · simp at hu; subst hu; simp [toTI]
theorem same_refl {bs : List UInt8} (hl : bs.length ≤ 1000000) : all2B (sameT true 0) (toksI bs) (toksI bs) = true := all2B_refl fun t ht => by
  have := toksI_at ht
  simp only [sameT]
  rw [wrap64_in (by omega) (by omega)]
  simp
/-- what Tokens returns -/
theorem s12_ok {bs : List UInt8} (h : bs.length ≤ 16384) : s12 [bytesA bs] = some (.tup [.sl 3 (tksL (toksI bs)) .no, .sl 2 (pbsL (probsI bs)) .no, .int .i64 0], []) := by
  simp only [s12, onBytes, unBytes_mk, if_true, r12, if_pos h, tkA, badA, toks_A, probs_A]
theorem s12_no {bs : List UInt8} (h : ¬ bs.length ≤ 16384) : s12 [bytesA bs] = some (.tup [.sl 3 [] .no, .sl 2 [] .no, .int .i64 2], []) := by
  simp only [s12, onBytes, unBytes_mk, if_true, r12, if_neg h]
theorem s14_ok {l k : List TI} {far : Bool} {more : Int} (h1 : l.length ≤ 1000000) (h2 : k.length ≤ 1000000) : s14 [.sl 3 (tksL l) .no, .sl 3 (tksL k) .no, .bool far, .int .i64 more] = some (.bool (all2B (sameT far more) l k), []) := by
  simp only [s14, and_self, if_true, unTIs, if_pos (And.intro h1 h2)]
theorem s15_ok {l k : List PI} (h1 : l.length ≤ 1000000) (h2 : k.length ≤ 1000000) : s15 [.sl 2 (pbsL l) .no, .sl 2 (pbsL k) .no] = some (.bool (all2B (fun a b => decide (a = b)) l k), []) := by
  simp only [s15, and_self, if_true, unPIs, if_pos (And.intro h1 h2)]
theorem p3 (m : Int) (bs : List UInt8) : PureOk PP (G8 m) XS (tbl [(11, s11), (12, s12), (13, s12), (14, s14), (15, s15)]) (itbl []) nAn [] 3 [bytesA bs] (.bool true, []) := by
  constructor
  rw [w3]
  have t11 : tbl [(11, s11), (12, s12), (13, s12), (14, s14), (15, s15)] 11 [] = some (.bool true, []) := rfl
  have t12 : ∀ x, tbl [(11, s11), (12, s12), (13, s12), (14, s14), (15, s15)] 12 x = s12 x := fun _ => rfl
  have t13 : ∀ x, tbl [(11, s11), (12, s12), (13, s12), (14, s14), (15, s15)] 13 x = s12 x := fun _ => rfl
  have t14 : ∀ x, tbl [(11, s11), (12, s12), (13, s12), (14, s14), (15, s15)] 14 x = s14 x := fun _ => rfl
  have t15 : ∀ x, tbl [(11, s11), (12, s12), (13, s12), (14, s14), (15, s15)] 15 x = s15 x := fun _ => rfl
  rw [t11, t12, t13]
  simp only [t14, t15, callIs_iff, retIs_iff, bytesL_length, Option.some.injEq, Prod.mk.injEq, AV.bool.injEq, and_true, decide_eq_true_eq, decide_eq_false_iff_not]
  refine ⟨true, rfl, fun _ => ⟨fun _ => trivial, fun hl => ?_⟩, fun h => nomatch h⟩
  by_cases hs : bs.length ≤ 16384
  · have hT := toksI_len bs
    have hP := probsI_len bs
    refine ⟨_, _, _, s12_ok hs, _, _, _, s12_ok hs, fun _ => ⟨_, s14_ok (by omega) (by omega), fun _ => ⟨_, s15_ok (by omega) (by omega), fun _ => trivial, fun h => ?_⟩, fun h => ?_⟩, fun h => by simp at h⟩
    · rw [all2B_refl fun a _ => by simp] at h; cases h
    · rw [same_refl (by omega)] at h; cases h
  · refine ⟨_, _, _, s12_no hs, _, _, _, s12_no hs, fun _ => ⟨_, s14_ok (l := []) (k := []) (by simp) (by simp), fun _ => ⟨_, s15_ok (l := []) (k := []) (by simp) (by simp), fun _ => trivial, fun h => ?_⟩, fun h => ?_⟩, fun h => by simp at h⟩
    · simp [all2B] at h
    · simp [all2B] at h
def s3 : Spec := fun args => match args with
  | [.sl sz es .no] => if sz = 1 then onBytes es fun _ => some (.bool true, []) else none
  | _ => none
theorem o3 (m : Int) : SpecOk PP (G8 m) 3 s3 := spec_of (X := XS) (m := []) mixed8 (tbl_cons (o11 m) (tbl_cons (o12' m) (tbl_cons (o13' m) (tbl_cons (o14 m) (tbl_cons (o15 m) tbl_nil))))) itbl_nil fun args r h => by
  unfold s3 at h
  split at h
  · split at h
    · rename_i hsz
      subst hsz
      unfold onBytes at h
      split at h
      · rename_i bs hb
        obtain rfl := unBytes_some hb
        injection h with h; subst h; exact ⟨nAn, p3 m bs⟩
      · cases h
    · cases h
  · cases h
theorem s3_true (l : List UInt8) : s3 [bytesA l] = some (.bool true, []) := by simp only [s3, if_true, onBytes, unBytes_mk]
end Go.Abs

namespace Go.Abs
open Go.Proofs L8

def srcT (t : TI) : List UInt8 := if t.kind = 4 then 34 :: (t.text ++ [34]) else t.text
def unT1 (args : List AV) (f : TI → Option (AV × List (Nat × TypeId))) : Option (AV × List (Nat × TypeId)) := match args with
  | [x] => match unTI x with
    | some t => f t
    | none => none
  | _ => none
def s23 : Spec := fun args => unT1 args fun t => if t.text.length ≤ 1000000 then some (.str (srcT t), []) else none
def s25 : Spec := fun args => match args with
  | [.int .i64 k, .str s, .int .i64 a] => some (tiA ⟨k, s, a⟩, [])
  | _ => none
def properB (t : TI) : Bool := decide ((srcT t).length ≤ 16384) && (decide (probsI (srcT t) = []) && decide (toksI (srcT t) = [⟨t.kind, t.text, 0⟩, ⟨6, [], (srcT t).length⟩]))
def s35 : Spec := fun args => unT1 args fun t => if t.text.length ≤ 900000 then some (.bool (properB t), []) else none
def isEnd (t : TI) : Bool := decide (t.kind = 6) && decide (t.text = [])
def trimEnd (l : List TI) : List TI := match l.getLast? with
  | some t => if isEnd t then l.dropLast else l
  | none => l
def jb0 : List TI → List UInt8
  | [] => []
  | t :: l => srcT t ++ l.flatMap fun u => 32 :: srcT u
def jbR (l : List TI) : AV × List (Nat × TypeId) :=
  (if (trimEnd l).all properB = true then (if (jb0 (trimEnd l)).length ≤ 16384 then .tup [bytesA (jb0 (trimEnd l)), .int .i64 0] else .tup [.sl 1 [] .no, .int .i64 2]) else .tup [.sl 1 [] .no, .int .i64 3], [])
def smallTks (l : List TI) : Prop := l.length ≤ 20000 ∧ ∀ t ∈ l, t.text.length ≤ 20000
instance (l : List TI) : Decidable (smallTks l) := inferInstanceAs (Decidable (_ ∧ _))
def s21 : Spec := fun args => match args with
  | [.sl sz es .no] => if sz = 3 then match unL unTI es with
    | some l => if smallTks l then some (jbR l) else none
    | none => none else none
  | _ => none
def smallB (l : List TI) : Bool := l.all (fun t => decide (t.text.length ≤ 300)) && decide (l.length ≤ 60)
def s20 : Spec := fun args => match args with
  | [.sl sz es .no] => if sz = 3 then match unL unTI es with
    | some l => if l.length ≤ 9223372036854775807 then some (.bool (smallB l), []) else none
    | none => none else none
  | _ => none
def gapC (c : UInt8) : UInt8 := [32, 9, 10, 13].getD (c.toNat % 4) 0
def gapR (s : List UInt8) : List UInt8 :=
  if (s.take 20).length % 2 = 1 then 32 :: 35 :: ((s.take 20).filter (· != 10) ++ [10]) else 32 :: (s.take 20).map gapC
def s24 : Spec := fun args => match args with
  | [.str s] => some (bytesA (gapR s), [])
  | _ => none
def shTI1 : Sh × Option TypeId := (.val (.agg [.int .i64, .str, .int .i64]), none)
def shJoin : Sh × Option TypeId := (.tup [.one (.sl 1 .no), .one (.int .i64)], none)
def XJ : Shapes := fun f => match f with
  | 11 | 14 | 15 | 16 | 17 | 18 | 19 | 20 | 35 => some shB
  | 12 | 13 => some shToks
  | 21 | 22 => some shJoin
  | 23 | 34 => some (.val (.one .str), none)
  | 24 => some (.val (.one (.sl 1 .no)), none)
  | 25 => some shTI1
  | _ => none
def jS (l : List TI) (i : Nat) : St := ⟨[], [((jb0 ((trimEnd l).take i)).length, 5)]⟩
def a21 (l : List TI) : Anns := ⟨fun k => match k with
  | 1000004 => some { α := Unit, slots := [0, 2], nb := 0, vals := fun _ => [.sl 3 (tksL (trimEnd l)) .no, .sl 0 [] .nil], sS := fun _ => ⟨[], []⟩, I := fun _ => True, μ := fun _ => 0 }
  | 5 => some { α := Nat, slots := [2, 37, 38, 39], nb := 0, vals := fun i => [.sl 1 (bytesL (jb0 ((trimEnd l).take i))) (.tok 0), .sl 3 (tksL (trimEnd l)) .no, .int .i64 (trimEnd l).length, .int .i64 i], sS := jS l, I := fun i => i ≤ (trimEnd l).length ∧ ((trimEnd l).take i).all properB = true, μ := fun i => l.length - i, mint := [(2, 5)] }
  | _ => none, nA⟩
def a22 (l : List TI) : Anns := ⟨fun k => match k with
  | 3 => some { α := Nat, slots := [0, 4, 5], nb := 0, vals := fun i => [.sl 3 (tksL l) .no, .sl 1 (bytesL (jb0 ((trimEnd l).take i))) (.tok 0), .int .i64 i], sS := jS l, I := fun i => i ≤ l.length ∧ ((trimEnd l).take i).all properB = true, μ := fun i => l.length - i, mint := [(4, 5)] }
  | _ => none, nA⟩
def a20 (l : List TI) : Anns := ⟨fun k => if k = 2 then some { α := Nat, slots := [0, 3], nb := 0, vals := fun i => [.sl 3 (tksL l) .no, .int .i64 i], sS := fun _ => ⟨[], []⟩, I := fun i => i ≤ l.length ∧ ((l.take i).all fun t => decide (t.text.length ≤ 300)) = true, μ := fun i => l.length - i } else none, nA⟩
end Go.Abs

namespace Go.Abs
open Go.Proofs L8
theorem w23 (m : Int) (t : TI) : (pureW PP (G8 m) XJ (tbl []) (itbl []) nAn [] 23 [tiA t] (.str (srcT t), [])) =
(((t.kind == (4 : Int)) = true →
    nat_lit 1 + t.text.length ≤ nat_lit 9223372036854775807 ∧
      ([(34 : UInt8)] ++ t.text).length + nat_lit 1 ≤ nat_lit 9223372036854775807 ∧
        RetIs (AV.str ([(34 : UInt8)] ++ t.text ++ [(34 : UInt8)])) [] (AV.str (srcT t), [])) ∧
  ((t.kind == (4 : Int)) = false → RetIs (AV.str t.text) [] (AV.str (srcT t), []))) := by kernel_rfl
theorem w34 (m : Int) (t : TI) : (pureW PP (G8 m) XJ (tbl []) (itbl []) nAn [] 34 [tiA t] (.str (srcT t), [])) =
(((t.kind == (4 : Int)) = true →
    nat_lit 1 + t.text.length ≤ nat_lit 9223372036854775807 ∧
      ([(34 : UInt8)] ++ t.text).length + nat_lit 1 ≤ nat_lit 9223372036854775807 ∧
        RetIs (AV.str ([(34 : UInt8)] ++ t.text ++ [(34 : UInt8)])) [] (AV.str (srcT t), [])) ∧
  ((t.kind == (4 : Int)) = false → RetIs (AV.str t.text) [] (AV.str (srcT t), []))) := by kernel_rfl
theorem w25 (m k a : Int) (s : List UInt8) : (pureW PP (G8 m) XJ (tbl []) (itbl []) nAn [] 25 [.int .i64 k, .str s, .int .i64 a] (tiA ⟨k, s, a⟩, [])) =
(RetIs (AV.agg [AV.int IntKind.i64 k, AV.str s, AV.int IntKind.i64 a]) []
  (AV.agg
      [AV.int IntKind.i64 ({ kind := k, text := s, at_ := a } : TI).kind, AV.str ({ kind := k, text := s, at_ := a } : TI).text,
        AV.int IntKind.i64 ({ kind := k, text := s, at_ := a } : TI).at_],
    [])) := by kernel_rfl
theorem w20 (m : Int) (l : List TI) : (pureW PP (G8 m) XJ (tbl []) (itbl []) (a20 l) [] 20 [.sl 3 (tksL l) .no] (.bool (smallB l), [])) =
((∃ (y : Nat),
    ValsAre [AV.sl (nat_lit 3) (tksL l) Own.no, AV.int IntKind.i64 (0 : Int)] [AV.sl (nat_lit 3) (tksL l) Own.no, AV.int IntKind.i64 (↑y : Int)] ∧
      StIs { boxes := [], live := [] } { boxes := [], live := [] } ∧
        (y ≤ l.length ∧ ((List.take y l).all fun (t : TI) => decide (t.text.length ≤ (300 : Nat))) = true) ∧ True) ∧
  ∀ (x : Nat),
    x ≤ l.length ∧ ((List.take x l).all fun (t : TI) => decide (t.text.length ≤ (300 : Nat))) = true →
      (decide ((↑x : Int) < (↑(tksL l).length : Int)) = true →
          ((0 : Int) ≤ (↑x : Int) ∧ (↑x : Int) < (↑(tksL l).length : Int)) ∧
            ∃ (s : List UInt8),
              takeAt PP (nat_lit 9) (tksL l) (↑x : Int).toNat (nat_lit 1) = some (AV.str s) ∧
                (decide ((↑s.length : Int) > (300 : Int)) = true → RetIs (AV.bool false) [] (AV.bool (smallB l), [])) ∧
                  (decide ((↑s.length : Int) > (300 : Int)) = false →
                    ∃ (y : Nat),
                      ValsAre [AV.sl (nat_lit 3) (tksL l) Own.no, AV.int IntKind.i64 (IntKind.i64.wrap ((↑x : Int) + (1 : Int)))]
                          [AV.sl (nat_lit 3) (tksL l) Own.no, AV.int IntKind.i64 (↑y : Int)] ∧
                        StIs { boxes := [], live := [] } { boxes := [], live := [] } ∧
                          (y ≤ l.length ∧ ((List.take y l).all fun (t : TI) => decide (t.text.length ≤ (300 : Nat))) = true) ∧ l.length - y < l.length - x)) ∧
        (decide ((↑x : Int) < (↑(tksL l).length : Int)) = false →
          (decide ((↑(tksL l).length : Int) ≤ (60 : Int)) = true → RetIs (AV.bool true) [] (AV.bool (smallB l), [])) ∧
            (decide ((↑(tksL l).length : Int) ≤ (60 : Int)) = false → RetIs (AV.bool false) [] (AV.bool (smallB l), [])))) := by kernel_rfl
end Go.Abs

namespace Go.Abs
open Go.Proofs L8
theorem w35 (m : Int) (t : TI) : (pureW PP (G8 m) XJ (tbl [(13, s12), (23, s23)]) (itbl []) nAn [] 35 [tiA t] (.bool (properB t), [])) =
(∃ (s : List UInt8),
  CallIs (tbl [(nat_lit 13, s12), (nat_lit 23, s23)] (nat_lit 23) [AV.agg [AV.int IntKind.i64 t.kind, AV.str t.text, AV.int IntKind.i64 t.at_]]) (AV.str s) [] ∧
    s.length ≤ nat_lit 70368744177664 ∧
      ∃ (es : List AV),
        ∃ (es_1 : List AV),
 ∃ (n : Int),
 CallIs
 (tbl [(nat_lit 13, s12), (nat_lit 23, s23)] (nat_lit 13)
 [AV.sl (nat_lit 1) (List.map (fun (c : UInt8) => AV.int IntKind.u8 (↑c.toNat : Int)) s) Own.no])
 (AV.tup [AV.sl (nat_lit 3) es Own.no, AV.sl (nat_lit 2) es_1 Own.no, AV.int IntKind.i64 n]) [] ∧
 ((n == (0 : Int)) = true →
 (((↑es_1.length : Int) == (0 : Int)) = true →
 (((↑es.length : Int) == (2 : Int)) = true →
 ((0 : Int) ≤ (0 : Int) ∧ (0 : Int) < (↑es.length : Int)) ∧
 ∃ (n : Int),
 takeAt PP (nat_lit 3) es (nat_lit 0) (nat_lit 0) = some (AV.int IntKind.i64 n) ∧
 ((n == t.kind) = true →
 ((0 : Int) ≤ (0 : Int) ∧ (0 : Int) < (↑es.length : Int)) ∧
 ∃ (s : List UInt8),
 takeAt PP (nat_lit 9) es (nat_lit 0) (nat_lit 1) = some (AV.str s) ∧
 ((s == t.text) = true →
 ((0 : Int) ≤ (0 : Int) ∧ (0 : Int) < (↑es.length : Int)) ∧
 ∃ (n : Int),
 takeAt PP (nat_lit 3) es (nat_lit 0) (nat_lit 2) = some (AV.int IntKind.i64 n) ∧
 ((n == (0 : Int)) = true →
 ((0 : Int) ≤ (1 : Int) ∧ (1 : Int) < (↑es.length : Int)) ∧
 ∃ (n : Int),
 takeAt PP (nat_lit 3) es (nat_lit 1) (nat_lit 2) = some (AV.int IntKind.i64 n) ∧
 ∃ (s : List UInt8),
 CallIs
 (tbl [(nat_lit 13, s12), (nat_lit 23, s23)] (nat_lit 23)
 [AV.agg [AV.int IntKind.i64 t.kind, AV.str t.text, AV.int IntKind.i64 t.at_]])
 (AV.str s) [] ∧
 ((n == (↑s.length : Int)) = true → RetIs (AV.bool true) [] (AV.bool (properB t), [])) ∧
 ((n == (↑s.length : Int)) = false → RetIs (AV.bool false) [] (AV.bool (properB t), []))) ∧
 ((n == (0 : Int)) = false → RetIs (AV.bool false) [] (AV.bool (properB t), []))) ∧
 ((s == t.text) = false → RetIs (AV.bool false) [] (AV.bool (properB t), []))) ∧
 ((n == t.kind) = false → RetIs (AV.bool false) [] (AV.bool (properB t), []))) ∧
 (((↑es.length : Int) == (2 : Int)) = false → RetIs (AV.bool false) [] (AV.bool (properB t), []))) ∧
 (((↑es_1.length : Int) == (0 : Int)) = false → RetIs (AV.bool false) [] (AV.bool (properB t), []))) ∧
 ((n == (0 : Int)) = false → RetIs (AV.bool false) [] (AV.bool (properB t), []))) := by kernel_rfl
end Go.Abs

namespace Go.Abs
open Go.Proofs L8

theorem srcT_eq (t : TI) : srcT t = if t.kind = 4 then [34] ++ t.text ++ [34] else t.text := by unfold srcT; split <;> simp
theorem srcT_len (t : TI) : (srcT t).length ≤ t.text.length + 2 := by
  unfold srcT; split
  · simp
  · omega
theorem p23 (m : Int) (t : TI) (h : t.text.length ≤ 1000000) : PureOk PP (G8 m) XJ (tbl []) (itbl []) nAn [] 23 [tiA t] (.str (srcT t), []) := by
  constructor
  rw [w23]
  simp only [retIs_iff, beq_iff_eq, beq_eq_false_iff_ne, ne_eq, Prod.mk.injEq, AV.str.injEq, and_true, srcT_eq]
  refine ⟨fun hk => ⟨by omega, by simp; omega, ?_⟩, fun hk => ?_⟩
  · rw [if_pos hk]
  · rw [if_neg hk]
theorem p34 (m : Int) (t : TI) (h : t.text.length ≤ 1000000) : PureOk PP (G8 m) XJ (tbl []) (itbl []) nAn [] 34 [tiA t] (.str (srcT t), []) := by
  constructor
  rw [w34]
  simp only [retIs_iff, beq_iff_eq, beq_eq_false_iff_ne, ne_eq, Prod.mk.injEq, AV.str.injEq, and_true, srcT_eq]
  refine ⟨fun hk => ⟨by omega, by simp; omega, ?_⟩, fun hk => ?_⟩
  · rw [if_pos hk]
  · rw [if_neg hk]
theorem p25 (m k a : Int) (s : List UInt8) : PureOk PP (G8 m) XJ (tbl []) (itbl []) nAn [] 25 [.int .i64 k, .str s, .int .i64 a] (tiA ⟨k, s, a⟩, []) := by
  constructor
  rw [w25]
  exact ⟨rfl⟩
theorem p20 (m : Int) (l : List TI) (hl : l.length ≤ 9223372036854775807) : PureOk PP (G8 m) XJ (tbl []) (itbl []) (a20 l) [] 20 [.sl 3 (tksL l) .no] (.bool (smallB l), []) := by
  constructor
  rw [w20]
  simp only [valsAre_iff, stIs_iff, retIs_iff, tksL_length, Prod.mk.injEq, AV.int.injEq, AV.bool.injEq, List.cons.injEq, and_true, true_and, decide_eq_true_eq, decide_eq_false_iff_not, Int.toNat_natCast, gt_iff_lt]
  refine ⟨⟨0, rfl, Nat.zero_le _, by simp⟩, fun x hx => ⟨fun hlt => ?_, fun hge => ⟨fun h => ?_, fun h => ?_⟩⟩⟩
  · have h1 : x < l.length := by omega
    obtain ⟨_, t2, _⟩ := tk_at agg9 size9 h1
    refine ⟨by omega, _, t2, fun h => ?_, fun h => ⟨x + 1, by rw [wrap64_in (by omega) (by omega)]; rfl, ⟨by omega, ?_⟩, by omega⟩⟩
    · have : (l.all fun t => decide (t.text.length ≤ 300)) = false := by
        cases hx : (l.all fun t => decide (t.text.length ≤ 300)) with
        | false => rfl
        | true =>
          rw [List.all_eq_true] at hx
          have := of_decide_eq_true (hx l[x] (List.getElem_mem h1))
          omega
      simp [smallB, this]
    · rw [List.take_succ_eq_append_getElem h1, List.all_append, hx.2]
      simp; omega
  · have h1 : x = l.length := by omega
    have := hx.2
    rw [h1, List.take_length] at this
    have h2 : l.length ≤ 60 := by omega
    simp [smallB, this, h2]
  · have h2 : ¬ l.length ≤ 60 := by omega
    simp [smallB, h2]
theorem un_tiA (t : TI) : unT1 [tiA t] = fun f => f t := rfl
theorem s23_ok {t : TI} (h : t.text.length ≤ 1000000) : s23 [tiA t] = some (.str (srcT t), []) := by
  show (if t.text.length ≤ 1000000 then some (AV.str (srcT t), []) else none) = _
  rw [if_pos h]
theorem toksI_two {s : List UInt8} {t : TI} (h : (toksI s).length = 2) (h0 : (toksI s)[0]? = some t) : toksI s = [t, ⟨6, [], s.length⟩] := by
  simp only [toksI, toksL, List.map_append, List.map_cons, List.map_nil, List.length_append, List.length_map, List.length_cons, List.length_nil] at h h0 ⊢
  cases hs : (scan s 0 false).1 with
  | nil => rw [hs] at h; simp at h
  | cons x r =>
    rw [hs] at h h0
    simp only [List.length_cons] at h
    have hr : r = [] := List.length_eq_zero_iff.1 (by omega)
    subst hr
    simp at h0
    subst h0
    rfl
theorem p35 (m : Int) (t : TI) (h : t.text.length ≤ 900000) : PureOk PP (G8 m) XJ (tbl [(13, s12), (23, s23)]) (itbl []) nAn [] 35 [tiA t] (.bool (properB t), []) := by
  constructor
  rw [w35]
  have t23 : tbl [(13, s12), (23, s23)] 23 [AV.agg [AV.int IntKind.i64 t.kind, AV.str t.text, AV.int IntKind.i64 t.at_]] = some (.str (srcT t), []) := by
    rw [tbl_miss (fun h => absurd h (by decide)), tbl_hit]; exact s23_ok (by omega)
  have t13 : ∀ x, tbl [(13, s12), (23, s23)] 13 x = s12 x := fun _ => rfl
  rw [t23]
  simp only [t13, callIs_iff, retIs_iff, Option.some.injEq, Prod.mk.injEq, AV.bool.injEq, AV.str.injEq, and_true, beq_iff_eq, beq_eq_false_iff_ne, ne_eq]
  have hsl := srcT_len t
  refine ⟨_, rfl, by omega, ?_⟩
  by_cases hs : (srcT t).length ≤ 16384
  · have hlen := toksI_len (srcT t)
    have no : ∀ {b : Bool}, (¬ (probsI (srcT t) = [] ∧ toksI (srcT t) = [⟨t.kind, t.text, 0⟩, ⟨6, [], (srcT t).length⟩])) → b = false → b = properB t := fun h hb => by
      subst hb
      simp only [properB]
      symm
      rw [Bool.eq_false_iff]
      intro hh
      simp only [Bool.and_eq_true, decide_eq_true_eq] at hh
      exact h hh.2
    refine ⟨_, _, _, s12_ok hs, fun _ => ⟨fun hp => ⟨fun h2 => ?_, fun h2 => no (fun hh => h2 (by rw [hh.2]; rfl)) rfl⟩, fun hp => no (fun hh => hp (by rw [hh.1]; rfl)) rfl⟩, fun h => absurd rfl h⟩
    rw [tksL_length] at h2
    rw [pbsL_length] at hp
    have h2' : (toksI (srcT t)).length = 2 := by omega
    have hpn : probsI (srcT t) = [] := List.length_eq_zero_iff.1 (by omega)
    have h0 : 0 < (toksI (srcT t)).length := by omega
    have h1 : 1 < (toksI (srcT t)).length := by omega
    obtain ⟨k1, k2, k3⟩ := tk_at agg3 size3 h0
    obtain ⟨_, u2, _⟩ := tk_at agg9 size9 h0
    obtain ⟨_, _, q3⟩ := tk_at agg3 size3 h1
    have hall := toksI_two h2' (List.getElem?_eq_getElem h0)
    have e1 : (toksI (srcT t))[1] = ⟨6, [], (srcT t).length⟩ := by
      have h8 := List.getElem?_eq_getElem h1
      have h9 : (toksI (srcT t))[1]? = some ⟨6, [], (srcT t).length⟩ := (congrArg (·[1]?) hall).trans rfl
      exact Option.some.inj (h8.symm.trans h9)
    rw [e1] at q3
    rw [tksL_length]
    generalize hx : (toksI (srcT t))[0] = x at *
    refine ⟨by omega, _, k1, fun c1 => ⟨by omega, _, u2, fun c2 => ⟨by omega, _, k3, fun c3 => ⟨by omega, _, q3, _, rfl, fun c4 => ?_, fun c4 => absurd rfl c4⟩, fun c3 => ?_⟩, fun c2 => ?_⟩, fun c1 => ?_⟩
    · obtain ⟨a, b, c⟩ := x
      simp only at c1 c2 c3
      subst c1; subst c2; subst c3
      simp only [properB, hs, hpn, hall, decide_true, Bool.and_true]
    · exact no (fun hh => c3 (by rw [hall] at hh; simp at hh; rw [hh.2])) rfl
    · exact no (fun hh => c2 (by rw [hall] at hh; simp at hh; rw [hh.2])) rfl
    · exact no (fun hh => c1 (by rw [hall] at hh; simp at hh; rw [hh.2])) rfl
  · refine ⟨_, _, _, s12_no hs, fun h => by simp at h, fun _ => ?_⟩
    simp [properB, hs]
theorem unT1_some {args : List AV} {f : TI → Option (AV × List (Nat × TypeId))} {r : AV × List (Nat × TypeId)} (h : unT1 args f = some r) : ∃ t, args = [tiA t] ∧ f t = some r := by
  unfold unT1 at h
  split at h
  · split at h
    · rename_i t ht
      exact ⟨t, by rw [unTI_some ht], h⟩
    · cases h
  · cases h
theorem o23 (m : Int) : SpecOk PP (G8 m) 23 s23 := spec_of (X := XJ) (m := []) mixed8 tbl_nil itbl_nil fun args r h => by
  obtain ⟨t, rfl, h2⟩ := unT1_some h
  clear h
  split at h2
  · rename_i hc; injection h2 with h2; subst h2; exact ⟨nAn, p23 m t hc⟩
  · cases h2
theorem o34 (m : Int) : SpecOk PP (G8 m) 34 s23 := spec_of (X := XJ) (m := []) mixed8 tbl_nil itbl_nil fun args r h => by
  obtain ⟨t, rfl, h2⟩ := unT1_some h
  clear h
  split at h2
  · rename_i hc; injection h2 with h2; subst h2; exact ⟨nAn, p34 m t hc⟩
  · cases h2
theorem o25 (m : Int) : SpecOk PP (G8 m) 25 s25 := spec_of (X := XJ) (m := []) mixed8 tbl_nil itbl_nil fun args r h => by
  unfold s25 at h
  split at h
  · injection h with h; subst h; exact ⟨nAn, p25 m _ _ _⟩
  · cases h
theorem o35 (m : Int) : SpecOk PP (G8 m) 35 s35 := spec_of (X := XJ) (m := []) mixed8 (tbl_cons (o13' m) (tbl_cons (o23 m) tbl_nil)) itbl_nil fun args r h => by
  obtain ⟨t, rfl, h2⟩ := unT1_some h
  clear h
  split at h2
  · rename_i hc; injection h2 with h2; subst h2; exact ⟨nAn, p35 m t hc⟩
  · cases h2
theorem o20 (m : Int) : SpecOk PP (G8 m) 20 s20 := spec_of (X := XJ) (m := []) mixed8 tbl_nil itbl_nil fun args r h => by
  unfold s20 at h
  split at h
  · split at h
    · rename_i hsz
      subst hsz
      split at h
      · rename_i l h1
        obtain rfl := unL_some (g := tiA) (fun _ _ => unTI_some) h1
        split at h
        · rename_i hc
          injection h with h; subst h; exact ⟨_, p20 m l hc⟩
        · cases h
      · cases h
    · cases h
  · cases h
end Go.Abs

namespace Go.Abs
open Go.Proofs L8
theorem w21 (m : Int) (l : List TI) : (laxW PP (G8 m) XJ (tbl [(12, s12), (34, s23)]) (itbl []) (a21 l) [] 21 [.sl 3 (tksL l) .no] (jbR l)) =
(((decide ((↑(tksL l).length : Int) > (0 : Int)) = true →
      ((0 : Int) ≤ IntKind.i64.wrap ((↑(tksL l).length : Int) - (1 : Int)) ∧
 IntKind.i64.wrap ((↑(tksL l).length : Int) - (1 : Int)) < (↑(tksL l).length : Int)) ∧
        ∃ (n : Int),
 takeAt PP (nat_lit 3) (tksL l) (IntKind.i64.wrap ((↑(tksL l).length : Int) - (1 : Int))).toNat (nat_lit 0) = some (AV.int IntKind.i64 n) ∧
 ((n == (6 : Int)) = true →
 ((0 : Int) ≤ IntKind.i64.wrap ((↑(tksL l).length : Int) - (1 : Int)) ∧
 IntKind.i64.wrap ((↑(tksL l).length : Int) - (1 : Int)) < (↑(tksL l).length : Int)) ∧
 ∃ (s : List UInt8),
 takeAt PP (nat_lit 9) (tksL l) (IntKind.i64.wrap ((↑(tksL l).length : Int) - (1 : Int))).toNat (nat_lit 1) = some (AV.str s) ∧
 ((s == []) = true →
 (0 : Int) ≤ IntKind.i64.wrap ((↑(tksL l).length : Int) - (1 : Int)) ∧
 (nat_lit 0 ≤ (IntKind.i64.wrap ((↑(tksL l).length : Int) - (1 : Int))).toNat ∧
 (IntKind.i64.wrap ((↑(tksL l).length : Int) - (1 : Int))).toNat ≤ (tksL l).length) ∧
 (nat_lit 3 = nat_lit 3 ∨ tksL l = []) ∧
 ∃ (_y : Unit),
 ValsAre
 [AV.sl (nat_lit 3)
 (List.drop (nat_lit 0) (List.take (IntKind.i64.wrap ((↑(tksL l).length : Int) - (1 : Int))).toNat (tksL l))) Own.no,
 AV.sl (nat_lit 0) [] Own.nil]
 [AV.sl (nat_lit 3) (tksL (trimEnd l)) Own.no, AV.sl (nat_lit 0) [] Own.nil] ∧
 StIs { boxes := [], live := [] } { boxes := [], live := [] } ∧ True ∧ True) ∧
 ((s == []) = false →
 ∃ (_y : Unit),
 ValsAre [AV.sl (nat_lit 3) (tksL l) Own.no, AV.sl (nat_lit 0) [] Own.nil]
 [AV.sl (nat_lit 3) (tksL (trimEnd l)) Own.no, AV.sl (nat_lit 0) [] Own.nil] ∧
 StIs { boxes := [], live := [] } { boxes := [], live := [] } ∧ True ∧ True)) ∧
 ((n == (6 : Int)) = false →
 ∃ (_y : Unit),
 ValsAre [AV.sl (nat_lit 3) (tksL l) Own.no, AV.sl (nat_lit 0) [] Own.nil]
 [AV.sl (nat_lit 3) (tksL (trimEnd l)) Own.no, AV.sl (nat_lit 0) [] Own.nil] ∧
 StIs { boxes := [], live := [] } { boxes := [], live := [] } ∧ True ∧ True)) ∧
    (decide ((↑(tksL l).length : Int) > (0 : Int)) = false →
      ∃ (_y : Unit),
        ValsAre [AV.sl (nat_lit 3) (tksL l) Own.no, AV.sl (nat_lit 0) [] Own.nil] [AV.sl (nat_lit 3) (tksL (trimEnd l)) Own.no, AV.sl (nat_lit 0) [] Own.nil] ∧
 StIs { boxes := [], live := [] } { boxes := [], live := [] } ∧ True ∧ True)) ∧
  ∀ (_x : Unit),
    True →
      True →
        (∃ (y : Nat),
 ValsAre
 [AV.sl (nat_lit 1) [] (Own.tok (nat_lit 0)), AV.sl (nat_lit 3) (tksL (trimEnd l)) Own.no, AV.int IntKind.i64 (↑(tksL (trimEnd l)).length : Int),
 AV.int IntKind.i64 (0 : Int)]
 [AV.sl (nat_lit 1) (bytesL (jb0 (List.take y (trimEnd l)))) (Own.tok (nat_lit 0)), AV.sl (nat_lit 3) (tksL (trimEnd l)) Own.no,
 AV.int IntKind.i64 (↑(trimEnd l).length : Int), AV.int IntKind.i64 (↑y : Int)] ∧
 StIs { boxes := [], live := [(nat_lit 0, nat_lit 5)] } { boxes := [], live := [((jb0 (List.take y (trimEnd l))).length, nat_lit 5)] } ∧
 (y ≤ (trimEnd l).length ∧ (List.take y (trimEnd l)).all properB = true) ∧ True) ∧
 ∀ (x : Nat),
 x ≤ (trimEnd l).length ∧ (List.take x (trimEnd l)).all properB = true →
 (decide ((↑x : Int) < (↑(trimEnd l).length : Int)) = true →
 ((0 : Int) ≤ (↑x : Int) ∧ (↑x : Int) < (↑(tksL (trimEnd l)).length : Int)) ∧
 ∃ (n : Int),
 ∃ (s : List UInt8),
 ∃ (n_1 : Int),
 takeAt PP (nat_lit 38) (tksL (trimEnd l)) (↑x : Int).toNat (nat_lit 0) =
 some (AV.agg [AV.int IntKind.i64 n, AV.str s, AV.int IntKind.i64 n_1]) ∧
 ∃ (s_1 : List UInt8),
 CallIs (tbl [(nat_lit 12, s12), (nat_lit 34, s23)] (nat_lit 34) [AV.agg [AV.int IntKind.i64 n, AV.str s, AV.int IntKind.i64 n_1]])
 (AV.str s_1) [] ∧
 s_1.length ≤ nat_lit 70368744177664 ∧
 ∃ (es : List AV),
 ∃ (es_1 : List AV),
 ∃ (n_2 : Int),
 CallIs
 (tbl [(nat_lit 12, s12), (nat_lit 34, s23)] (nat_lit 12)
 [AV.sl (nat_lit 1) (List.map (fun (c : UInt8) => AV.int IntKind.u8 (↑c.toNat : Int)) s_1) Own.no])
 (AV.tup [AV.sl (nat_lit 3) es Own.no, AV.sl (nat_lit 2) es_1 Own.no, AV.int IntKind.i64 n_2]) [] ∧
 ((n_2 != (0 : Int)) = true →
 RetLax (AV.tup [AV.sl (nat_lit 0) [] Own.nil, AV.int IntKind.i64 (3 : Int)])
 (if (trimEnd l).all properB = true then
 if (jb0 (trimEnd l)).length ≤ nat_lit 16384 then
 AV.tup [AV.sl (nat_lit 1) (bytesL (jb0 (trimEnd l))) Own.no, AV.int IntKind.i64 (0 : Int)]
 else AV.tup [AV.sl (nat_lit 1) [] Own.no, AV.int IntKind.i64 (2 : Int)]
 else AV.tup [AV.sl (nat_lit 1) [] Own.no, AV.int IntKind.i64 (3 : Int)],
 [])) ∧
 ((n_2 != (0 : Int)) = false →
 (decide ((↑es_1.length : Int) > (0 : Int)) = true →
 RetLax (AV.tup [AV.sl (nat_lit 0) [] Own.nil, AV.int IntKind.i64 (3 : Int)])
 (if (trimEnd l).all properB = true then
 if (jb0 (trimEnd l)).length ≤ nat_lit 16384 then
 AV.tup [AV.sl (nat_lit 1) (bytesL (jb0 (trimEnd l))) Own.no, AV.int IntKind.i64 (0 : Int)]
 else AV.tup [AV.sl (nat_lit 1) [] Own.no, AV.int IntKind.i64 (2 : Int)]
 else AV.tup [AV.sl (nat_lit 1) [] Own.no, AV.int IntKind.i64 (3 : Int)],
 [])) ∧
 (decide ((↑es_1.length : Int) > (0 : Int)) = false →
 (((↑es.length : Int) != (2 : Int)) = true →
 RetLax (AV.tup [AV.sl (nat_lit 0) [] Own.nil, AV.int IntKind.i64 (3 : Int)])
 (if (trimEnd l).all properB = true then
 if (jb0 (trimEnd l)).length ≤ nat_lit 16384 then
 AV.tup [AV.sl (nat_lit 1) (bytesL (jb0 (trimEnd l))) Own.no, AV.int IntKind.i64 (0 : Int)]
 else AV.tup [AV.sl (nat_lit 1) [] Own.no, AV.int IntKind.i64 (2 : Int)]
 else AV.tup [AV.sl (nat_lit 1) [] Own.no, AV.int IntKind.i64 (3 : Int)],
 [])) ∧
 (((↑es.length : Int) != (2 : Int)) = false →
 ((0 : Int) ≤ (0 : Int) ∧ (0 : Int) < (↑es.length : Int)) ∧
 ∃ (n_3 : Int),
 ∃ (s_2 : List UInt8),
 ∃ (n_4 : Int),
 takeAt PP (nat_lit 38) es (nat_lit 0) (nat_lit 0) =
 some (AV.agg [AV.int IntKind.i64 n_3, AV.str s_2, AV.int IntKind.i64 n_4]) ∧
 ((!(n_3 == n && (s_2 == s && (n_4 == (0 : Int) && true)))) = true →
 RetLax (AV.tup [AV.sl (nat_lit 0) [] Own.nil, AV.int IntKind.i64 (3 : Int)])
 (if (trimEnd l).all properB = true then
 if (jb0 (trimEnd l)).length ≤ nat_lit 16384 then
 AV.tup
 [AV.sl (nat_lit 1) (bytesL (jb0 (trimEnd l))) Own.no,
 AV.int IntKind.i64 (0 : Int)]
 else AV.tup [AV.sl (nat_lit 1) [] Own.no, AV.int IntKind.i64 (2 : Int)]
 else AV.tup [AV.sl (nat_lit 1) [] Own.no, AV.int IntKind.i64 (3 : Int)],
 [])) ∧
 ((!(n_3 == n && (s_2 == s && (n_4 == (0 : Int) && true)))) = false →
 (decide ((↑x : Int) > (0 : Int)) = true →
 (nat_lit 1 = nat_lit 1 ∨ bytesL (jb0 (List.take x (trimEnd l))) = []) ∧
 ((bytesL (jb0 (List.take x (trimEnd l)))).length + (1 : Nat)) * nat_lit 2 ≤
 nat_lit 70368744177664 ∧
 (jb0 (List.take x (trimEnd l))).length =
 (bytesL (jb0 (List.take x (trimEnd l)))).length ∧
 (nat_lit 1 = nat_lit 1 ∨
 bytesL (jb0 (List.take x (trimEnd l))) ++ [AV.int IntKind.u8 (32 : Int)] =
 []) ∧
 ((bytesL (jb0 (List.take x (trimEnd l))) ++
 [AV.int IntKind.u8 (32 : Int)]).length +
 (List.map (fun (c : UInt8) => AV.int IntKind.u8 (↑c.toNat : Int))
 s_1).length) *
 nat_lit 2 ≤
 nat_lit 70368744177664 ∧
 (bytesL (jb0 (List.take x (trimEnd l)))).length + nat_lit 1 =
 (bytesL (jb0 (List.take x (trimEnd l))) ++
 [AV.int IntKind.u8 (32 : Int)]).length ∧
 ∃ (y : Nat),
 ValsAre
 [AV.sl (nat_lit 1)
 (bytesL (jb0 (List.take x (trimEnd l))) ++
 [AV.int IntKind.u8 (32 : Int)] ++
 List.map (fun (c : UInt8) => AV.int IntKind.u8 (↑c.toNat : Int))
 s_1)
 (Own.tok (nat_lit 0)),
 AV.sl (nat_lit 3) (tksL (trimEnd l)) Own.no,
 AV.int IntKind.i64 (↑(trimEnd l).length : Int),
 AV.int IntKind.i64 (IntKind.i64.wrap ((↑x : Int) + (1 : Int)))]
 [AV.sl (nat_lit 1) (bytesL (jb0 (List.take y (trimEnd l))))
 (Own.tok (nat_lit 0)),
 AV.sl (nat_lit 3) (tksL (trimEnd l)) Own.no,
 AV.int IntKind.i64 (↑(trimEnd l).length : Int),
 AV.int IntKind.i64 (↑y : Int)] ∧
 StIs
 { boxes := [], live := [((bytesL (jb0 (List.take x (trimEnd l))) ++ [AV.int IntKind.u8 (32 : Int)]).length + (List.map (fun (c : UInt8) => AV.int IntKind.u8 (↑c.toNat : Int)) s_1).length, nat_lit 5)] }
 { boxes := [], live := [((jb0 (List.take y (trimEnd l))).length, nat_lit 5)] } ∧
 (y ≤ (trimEnd l).length ∧
 (List.take y (trimEnd l)).all properB = true) ∧
 l.length - y < l.length - x) ∧
 (decide ((↑x : Int) > (0 : Int)) = false →
 (nat_lit 1 = nat_lit 1 ∨ bytesL (jb0 (List.take x (trimEnd l))) = []) ∧
 ((bytesL (jb0 (List.take x (trimEnd l)))).length +
 (List.map (fun (c : UInt8) => AV.int IntKind.u8 (↑c.toNat : Int))
 s_1).length) *
 nat_lit 2 ≤
 nat_lit 70368744177664 ∧
 (jb0 (List.take x (trimEnd l))).length =
 (bytesL (jb0 (List.take x (trimEnd l)))).length ∧
 ∃ (y : Nat),
 ValsAre
 [AV.sl (nat_lit 1)
 (bytesL (jb0 (List.take x (trimEnd l))) ++
 List.map (fun (c : UInt8) => AV.int IntKind.u8 (↑c.toNat : Int)) s_1)
 (Own.tok (nat_lit 0)),
 AV.sl (nat_lit 3) (tksL (trimEnd l)) Own.no,
 AV.int IntKind.i64 (↑(trimEnd l).length : Int),
 AV.int IntKind.i64 (IntKind.i64.wrap ((↑x : Int) + (1 : Int)))]
 [AV.sl (nat_lit 1) (bytesL (jb0 (List.take y (trimEnd l))))
 (Own.tok (nat_lit 0)),
 AV.sl (nat_lit 3) (tksL (trimEnd l)) Own.no,
 AV.int IntKind.i64 (↑(trimEnd l).length : Int),
 AV.int IntKind.i64 (↑y : Int)] ∧
 StIs
 { boxes := [], live := [((bytesL (jb0 (List.take x (trimEnd l)))).length + (List.map (fun (c : UInt8) => AV.int IntKind.u8 (↑c.toNat : Int)) s_1).length, nat_lit 5)] }
 { boxes := [], live := [((jb0 (List.take y (trimEnd l))).length, nat_lit 5)] } ∧
 (y ≤ (trimEnd l).length ∧ (List.take y (trimEnd l)).all properB = true) ∧
 l.length - y < l.length - x)))))) ∧
 (decide ((↑x : Int) < (↑(trimEnd l).length : Int)) = false →
 (decide ((↑(bytesL (jb0 (List.take x (trimEnd l)))).length : Int) > (16384 : Int)) = true →
 RetLax (AV.tup [AV.sl (nat_lit 0) [] Own.nil, AV.int IntKind.i64 (2 : Int)])
 (if (trimEnd l).all properB = true then
 if (jb0 (trimEnd l)).length ≤ nat_lit 16384 then
 AV.tup [AV.sl (nat_lit 1) (bytesL (jb0 (trimEnd l))) Own.no, AV.int IntKind.i64 (0 : Int)]
 else AV.tup [AV.sl (nat_lit 1) [] Own.no, AV.int IntKind.i64 (2 : Int)]
 else AV.tup [AV.sl (nat_lit 1) [] Own.no, AV.int IntKind.i64 (3 : Int)],
 [])) ∧
 (decide ((↑(bytesL (jb0 (List.take x (trimEnd l)))).length : Int) > (16384 : Int)) = false →
 RetLax (AV.tup [AV.sl (nat_lit 1) (bytesL (jb0 (List.take x (trimEnd l)))) (Own.tok (nat_lit 0)), AV.int IntKind.i64 (0 : Int)])
 (if (trimEnd l).all properB = true then
 if (jb0 (trimEnd l)).length ≤ nat_lit 16384 then
 AV.tup [AV.sl (nat_lit 1) (bytesL (jb0 (trimEnd l))) Own.no, AV.int IntKind.i64 (0 : Int)]
 else AV.tup [AV.sl (nat_lit 1) [] Own.no, AV.int IntKind.i64 (2 : Int)]
 else AV.tup [AV.sl (nat_lit 1) [] Own.no, AV.int IntKind.i64 (3 : Int)],
 [])))) := by kernel_rfl
end Go.Abs

namespace Go.Abs
open Go.Proofs L8
theorem w22 (m : Int) (l : List TI) : (laxW PP (G8 m) XJ (tbl [(23, s23), (35, s35)]) (itbl []) (a22 l) [] 22 [.sl 3 (tksL l) .no] (jbR l)) =
((∃ (y : Nat),
    ValsAre [AV.sl (nat_lit 3) (tksL l) Own.no, AV.sl (nat_lit 1) [] (Own.tok (nat_lit 0)), AV.int IntKind.i64 (0 : Int)]
        [AV.sl (nat_lit 3) (tksL l) Own.no, AV.sl (nat_lit 1) (bytesL (jb0 (List.take y (trimEnd l)))) (Own.tok (nat_lit 0)), AV.int IntKind.i64 (↑y : Int)] ∧
      StIs { boxes := [], live := [(nat_lit 0, nat_lit 5)] } { boxes := [], live := [((jb0 (List.take y (trimEnd l))).length, nat_lit 5)] } ∧
        (y ≤ l.length ∧ (List.take y (trimEnd l)).all properB = true) ∧ True) ∧
  ∀ (x : Nat),
    x ≤ l.length ∧ (List.take x (trimEnd l)).all properB = true →
      (decide ((↑x : Int) < (↑(tksL l).length : Int)) = true →
 ((0 : Int) ≤ (↑x : Int) ∧ (↑x : Int) < (↑(tksL l).length : Int)) ∧
 ∃ (n : Int),
 ∃ (s : List UInt8),
 ∃ (n_1 : Int),
 takeAt PP (nat_lit 38) (tksL l) (↑x : Int).toNat (nat_lit 0) = some (AV.agg [AV.int IntKind.i64 n, AV.str s, AV.int IntKind.i64 n_1]) ∧
 (((↑x : Int) == IntKind.i64.wrap ((↑(tksL l).length : Int) - (1 : Int))) = true →
 ((n == (6 : Int)) = true →
 ((s == []) = true →
 ∃ (y : Nat),
 ValsAre
 [AV.sl (nat_lit 3) (tksL l) Own.no, AV.sl (nat_lit 1) (bytesL (jb0 (List.take x (trimEnd l)))) (Own.tok (nat_lit 0)),
 AV.int IntKind.i64 (IntKind.i64.wrap ((↑x : Int) + (1 : Int)))]
 [AV.sl (nat_lit 3) (tksL l) Own.no, AV.sl (nat_lit 1) (bytesL (jb0 (List.take y (trimEnd l)))) (Own.tok (nat_lit 0)),
 AV.int IntKind.i64 (↑y : Int)] ∧
 StIs { boxes := [], live := [((jb0 (List.take x (trimEnd l))).length, nat_lit 5)] }
 { boxes := [], live := [((jb0 (List.take y (trimEnd l))).length, nat_lit 5)] } ∧
 (y ≤ l.length ∧ (List.take y (trimEnd l)).all properB = true) ∧ l.length - y < l.length - x) ∧
 ((s == []) = false →
 ∃ (b : Bool),
 CallIs
 (tbl [(nat_lit 23, s23), (nat_lit 35, s35)] (nat_lit 35)
 [AV.agg [AV.int IntKind.i64 n, AV.str s, AV.int IntKind.i64 n_1]])
 (AV.bool b) [] ∧
 (b = true →
 (decide ((↑x : Int) > (0 : Int)) = true →
 (nat_lit 1 = nat_lit 1 ∨ bytesL (jb0 (List.take x (trimEnd l))) = []) ∧
 ((bytesL (jb0 (List.take x (trimEnd l)))).length + (1 : Nat)) * nat_lit 2 ≤ nat_lit 70368744177664 ∧
 (jb0 (List.take x (trimEnd l))).length = (bytesL (jb0 (List.take x (trimEnd l)))).length ∧
 ∃ (s_1 : List UInt8),
 CallIs
 (tbl [(nat_lit 23, s23), (nat_lit 35, s35)] (nat_lit 23)
 [AV.agg [AV.int IntKind.i64 n, AV.str s, AV.int IntKind.i64 n_1]])
 (AV.str s_1) [] ∧
 (nat_lit 1 = nat_lit 1 ∨ bytesL (jb0 (List.take x (trimEnd l))) ++ [AV.int IntKind.u8 (32 : Int)] = []) ∧
 ((bytesL (jb0 (List.take x (trimEnd l))) ++ [AV.int IntKind.u8 (32 : Int)]).length +
 (List.map (fun (c : UInt8) => AV.int IntKind.u8 (↑c.toNat : Int)) s_1).length) *
 nat_lit 2 ≤
 nat_lit 70368744177664 ∧
 (bytesL (jb0 (List.take x (trimEnd l)))).length + nat_lit 1 =
 (bytesL (jb0 (List.take x (trimEnd l))) ++ [AV.int IntKind.u8 (32 : Int)]).length ∧
 ∃ (y : Nat),
 ValsAre
 [AV.sl (nat_lit 3) (tksL l) Own.no,
 AV.sl (nat_lit 1)
 (bytesL (jb0 (List.take x (trimEnd l))) ++ [AV.int IntKind.u8 (32 : Int)] ++
 List.map (fun (c : UInt8) => AV.int IntKind.u8 (↑c.toNat : Int)) s_1)
 (Own.tok (nat_lit 0)),
 AV.int IntKind.i64 (IntKind.i64.wrap ((↑x : Int) + (1 : Int)))]
 [AV.sl (nat_lit 3) (tksL l) Own.no,
 AV.sl (nat_lit 1) (bytesL (jb0 (List.take y (trimEnd l)))) (Own.tok (nat_lit 0)),
 AV.int IntKind.i64 (↑y : Int)] ∧
 StIs
 { boxes := [], live := [((bytesL (jb0 (List.take x (trimEnd l))) ++ [AV.int IntKind.u8 (32 : Int)]).length + (List.map (fun (c : UInt8) => AV.int IntKind.u8 (↑c.toNat : Int)) s_1).length, nat_lit 5)] }
 { boxes := [], live := [((jb0 (List.take y (trimEnd l))).length, nat_lit 5)] } ∧
 (y ≤ l.length ∧ (List.take y (trimEnd l)).all properB = true) ∧ l.length - y < l.length - x) ∧
 (decide ((↑x : Int) > (0 : Int)) = false →
 ∃ (s_1 : List UInt8),
 CallIs
 (tbl [(nat_lit 23, s23), (nat_lit 35, s35)] (nat_lit 23)
 [AV.agg [AV.int IntKind.i64 n, AV.str s, AV.int IntKind.i64 n_1]])
 (AV.str s_1) [] ∧
 (nat_lit 1 = nat_lit 1 ∨ bytesL (jb0 (List.take x (trimEnd l))) = []) ∧
 ((bytesL (jb0 (List.take x (trimEnd l)))).length +
 (List.map (fun (c : UInt8) => AV.int IntKind.u8 (↑c.toNat : Int)) s_1).length) *
 nat_lit 2 ≤
 nat_lit 70368744177664 ∧
 (jb0 (List.take x (trimEnd l))).length = (bytesL (jb0 (List.take x (trimEnd l)))).length ∧
 ∃ (y : Nat),
 ValsAre
 [AV.sl (nat_lit 3) (tksL l) Own.no,
 AV.sl (nat_lit 1)
 (bytesL (jb0 (List.take x (trimEnd l))) ++
 List.map (fun (c : UInt8) => AV.int IntKind.u8 (↑c.toNat : Int)) s_1)
 (Own.tok (nat_lit 0)),
 AV.int IntKind.i64 (IntKind.i64.wrap ((↑x : Int) + (1 : Int)))]
 [AV.sl (nat_lit 3) (tksL l) Own.no,
 AV.sl (nat_lit 1) (bytesL (jb0 (List.take y (trimEnd l)))) (Own.tok (nat_lit 0)),
 AV.int IntKind.i64 (↑y : Int)] ∧
 StIs
 { boxes := [], live := [((bytesL (jb0 (List.take x (trimEnd l)))).length + (List.map (fun (c : UInt8) => AV.int IntKind.u8 (↑c.toNat : Int)) s_1).length, nat_lit 5)] }
 { boxes := [], live := [((jb0 (List.take y (trimEnd l))).length, nat_lit 5)] } ∧
 (y ≤ l.length ∧ (List.take y (trimEnd l)).all properB = true) ∧ l.length - y < l.length - x)) ∧
 (b = false →
 RetLax (AV.tup [AV.sl (nat_lit 0) [] Own.nil, AV.int IntKind.i64 (3 : Int)])
 (if (trimEnd l).all properB = true then
 if (jb0 (trimEnd l)).length ≤ nat_lit 16384 then
 AV.tup [AV.sl (nat_lit 1) (bytesL (jb0 (trimEnd l))) Own.no, AV.int IntKind.i64 (0 : Int)]
 else AV.tup [AV.sl (nat_lit 1) [] Own.no, AV.int IntKind.i64 (2 : Int)]
 else AV.tup [AV.sl (nat_lit 1) [] Own.no, AV.int IntKind.i64 (3 : Int)],
 [])))) ∧
 ((n == (6 : Int)) = false →
 ∃ (b : Bool),
 CallIs (tbl [(nat_lit 23, s23), (nat_lit 35, s35)] (nat_lit 35) [AV.agg [AV.int IntKind.i64 n, AV.str s, AV.int IntKind.i64 n_1]])
 (AV.bool b) [] ∧
 (b = true →
 (decide ((↑x : Int) > (0 : Int)) = true →
 (nat_lit 1 = nat_lit 1 ∨ bytesL (jb0 (List.take x (trimEnd l))) = []) ∧
 ((bytesL (jb0 (List.take x (trimEnd l)))).length + (1 : Nat)) * nat_lit 2 ≤ nat_lit 70368744177664 ∧
 (jb0 (List.take x (trimEnd l))).length = (bytesL (jb0 (List.take x (trimEnd l)))).length ∧
 ∃ (s_1 : List UInt8),
 CallIs
 (tbl [(nat_lit 23, s23), (nat_lit 35, s35)] (nat_lit 23)
 [AV.agg [AV.int IntKind.i64 n, AV.str s, AV.int IntKind.i64 n_1]])
 (AV.str s_1) [] ∧
 (nat_lit 1 = nat_lit 1 ∨ bytesL (jb0 (List.take x (trimEnd l))) ++ [AV.int IntKind.u8 (32 : Int)] = []) ∧
 ((bytesL (jb0 (List.take x (trimEnd l))) ++ [AV.int IntKind.u8 (32 : Int)]).length +
 (List.map (fun (c : UInt8) => AV.int IntKind.u8 (↑c.toNat : Int)) s_1).length) *
 nat_lit 2 ≤
 nat_lit 70368744177664 ∧
 (bytesL (jb0 (List.take x (trimEnd l)))).length + nat_lit 1 =
 (bytesL (jb0 (List.take x (trimEnd l))) ++ [AV.int IntKind.u8 (32 : Int)]).length ∧
 ∃ (y : Nat),
 ValsAre
 [AV.sl (nat_lit 3) (tksL l) Own.no,
 AV.sl (nat_lit 1)
 (bytesL (jb0 (List.take x (trimEnd l))) ++ [AV.int IntKind.u8 (32 : Int)] ++
 List.map (fun (c : UInt8) => AV.int IntKind.u8 (↑c.toNat : Int)) s_1)
 (Own.tok (nat_lit 0)),
 AV.int IntKind.i64 (IntKind.i64.wrap ((↑x : Int) + (1 : Int)))]
 [AV.sl (nat_lit 3) (tksL l) Own.no,
 AV.sl (nat_lit 1) (bytesL (jb0 (List.take y (trimEnd l)))) (Own.tok (nat_lit 0)),
 AV.int IntKind.i64 (↑y : Int)] ∧
 StIs
 { boxes := [], live := [((bytesL (jb0 (List.take x (trimEnd l))) ++ [AV.int IntKind.u8 (32 : Int)]).length + (List.map (fun (c : UInt8) => AV.int IntKind.u8 (↑c.toNat : Int)) s_1).length, nat_lit 5)] }
 { boxes := [], live := [((jb0 (List.take y (trimEnd l))).length, nat_lit 5)] } ∧
 (y ≤ l.length ∧ (List.take y (trimEnd l)).all properB = true) ∧ l.length - y < l.length - x) ∧
 (decide ((↑x : Int) > (0 : Int)) = false →
 ∃ (s_1 : List UInt8),
 CallIs
 (tbl [(nat_lit 23, s23), (nat_lit 35, s35)] (nat_lit 23)
 [AV.agg [AV.int IntKind.i64 n, AV.str s, AV.int IntKind.i64 n_1]])
 (AV.str s_1) [] ∧
 (nat_lit 1 = nat_lit 1 ∨ bytesL (jb0 (List.take x (trimEnd l))) = []) ∧
 ((bytesL (jb0 (List.take x (trimEnd l)))).length +
 (List.map (fun (c : UInt8) => AV.int IntKind.u8 (↑c.toNat : Int)) s_1).length) *
 nat_lit 2 ≤
 nat_lit 70368744177664 ∧
 (jb0 (List.take x (trimEnd l))).length = (bytesL (jb0 (List.take x (trimEnd l)))).length ∧
 ∃ (y : Nat),
 ValsAre
 [AV.sl (nat_lit 3) (tksL l) Own.no,
 AV.sl (nat_lit 1)
 (bytesL (jb0 (List.take x (trimEnd l))) ++
 List.map (fun (c : UInt8) => AV.int IntKind.u8 (↑c.toNat : Int)) s_1)
 (Own.tok (nat_lit 0)),
 AV.int IntKind.i64 (IntKind.i64.wrap ((↑x : Int) + (1 : Int)))]
 [AV.sl (nat_lit 3) (tksL l) Own.no,
 AV.sl (nat_lit 1) (bytesL (jb0 (List.take y (trimEnd l)))) (Own.tok (nat_lit 0)),
 AV.int IntKind.i64 (↑y : Int)] ∧
 StIs
 { boxes := [], live := [((bytesL (jb0 (List.take x (trimEnd l)))).length + (List.map (fun (c : UInt8) => AV.int IntKind.u8 (↑c.toNat : Int)) s_1).length, nat_lit 5)] }
 { boxes := [], live := [((jb0 (List.take y (trimEnd l))).length, nat_lit 5)] } ∧
 (y ≤ l.length ∧ (List.take y (trimEnd l)).all properB = true) ∧ l.length - y < l.length - x)) ∧
 (b = false →
 RetLax (AV.tup [AV.sl (nat_lit 0) [] Own.nil, AV.int IntKind.i64 (3 : Int)])
 (if (trimEnd l).all properB = true then
 if (jb0 (trimEnd l)).length ≤ nat_lit 16384 then
 AV.tup [AV.sl (nat_lit 1) (bytesL (jb0 (trimEnd l))) Own.no, AV.int IntKind.i64 (0 : Int)]
 else AV.tup [AV.sl (nat_lit 1) [] Own.no, AV.int IntKind.i64 (2 : Int)]
 else AV.tup [AV.sl (nat_lit 1) [] Own.no, AV.int IntKind.i64 (3 : Int)],
 [])))) ∧
 (((↑x : Int) == IntKind.i64.wrap ((↑(tksL l).length : Int) - (1 : Int))) = false →
 ∃ (b : Bool),
 CallIs (tbl [(nat_lit 23, s23), (nat_lit 35, s35)] (nat_lit 35) [AV.agg [AV.int IntKind.i64 n, AV.str s, AV.int IntKind.i64 n_1]])
 (AV.bool b) [] ∧
 (b = true →
 (decide ((↑x : Int) > (0 : Int)) = true →
 (nat_lit 1 = nat_lit 1 ∨ bytesL (jb0 (List.take x (trimEnd l))) = []) ∧
 ((bytesL (jb0 (List.take x (trimEnd l)))).length + (1 : Nat)) * nat_lit 2 ≤ nat_lit 70368744177664 ∧
 (jb0 (List.take x (trimEnd l))).length = (bytesL (jb0 (List.take x (trimEnd l)))).length ∧
 ∃ (s_1 : List UInt8),
 CallIs
 (tbl [(nat_lit 23, s23), (nat_lit 35, s35)] (nat_lit 23)
 [AV.agg [AV.int IntKind.i64 n, AV.str s, AV.int IntKind.i64 n_1]])
 (AV.str s_1) [] ∧
 (nat_lit 1 = nat_lit 1 ∨ bytesL (jb0 (List.take x (trimEnd l))) ++ [AV.int IntKind.u8 (32 : Int)] = []) ∧
 ((bytesL (jb0 (List.take x (trimEnd l))) ++ [AV.int IntKind.u8 (32 : Int)]).length +
 (List.map (fun (c : UInt8) => AV.int IntKind.u8 (↑c.toNat : Int)) s_1).length) *
 nat_lit 2 ≤
 nat_lit 70368744177664 ∧
 (bytesL (jb0 (List.take x (trimEnd l)))).length + nat_lit 1 =
 (bytesL (jb0 (List.take x (trimEnd l))) ++ [AV.int IntKind.u8 (32 : Int)]).length ∧
 ∃ (y : Nat),
 ValsAre
 [AV.sl (nat_lit 3) (tksL l) Own.no,
 AV.sl (nat_lit 1)
 (bytesL (jb0 (List.take x (trimEnd l))) ++ [AV.int IntKind.u8 (32 : Int)] ++
 List.map (fun (c : UInt8) => AV.int IntKind.u8 (↑c.toNat : Int)) s_1)
 (Own.tok (nat_lit 0)),
 AV.int IntKind.i64 (IntKind.i64.wrap ((↑x : Int) + (1 : Int)))]
 [AV.sl (nat_lit 3) (tksL l) Own.no,
 AV.sl (nat_lit 1) (bytesL (jb0 (List.take y (trimEnd l)))) (Own.tok (nat_lit 0)),
 AV.int IntKind.i64 (↑y : Int)] ∧
 StIs
 { boxes := [], live := [((bytesL (jb0 (List.take x (trimEnd l))) ++ [AV.int IntKind.u8 (32 : Int)]).length + (List.map (fun (c : UInt8) => AV.int IntKind.u8 (↑c.toNat : Int)) s_1).length, nat_lit 5)] }
 { boxes := [], live := [((jb0 (List.take y (trimEnd l))).length, nat_lit 5)] } ∧
 (y ≤ l.length ∧ (List.take y (trimEnd l)).all properB = true) ∧ l.length - y < l.length - x) ∧
 (decide ((↑x : Int) > (0 : Int)) = false →
 ∃ (s_1 : List UInt8),
 CallIs
 (tbl [(nat_lit 23, s23), (nat_lit 35, s35)] (nat_lit 23)
 [AV.agg [AV.int IntKind.i64 n, AV.str s, AV.int IntKind.i64 n_1]])
 (AV.str s_1) [] ∧
 (nat_lit 1 = nat_lit 1 ∨ bytesL (jb0 (List.take x (trimEnd l))) = []) ∧
 ((bytesL (jb0 (List.take x (trimEnd l)))).length +
 (List.map (fun (c : UInt8) => AV.int IntKind.u8 (↑c.toNat : Int)) s_1).length) *
 nat_lit 2 ≤
 nat_lit 70368744177664 ∧
 (jb0 (List.take x (trimEnd l))).length = (bytesL (jb0 (List.take x (trimEnd l)))).length ∧
 ∃ (y : Nat),
 ValsAre
 [AV.sl (nat_lit 3) (tksL l) Own.no,
 AV.sl (nat_lit 1)
 (bytesL (jb0 (List.take x (trimEnd l))) ++
 List.map (fun (c : UInt8) => AV.int IntKind.u8 (↑c.toNat : Int)) s_1)
 (Own.tok (nat_lit 0)),
 AV.int IntKind.i64 (IntKind.i64.wrap ((↑x : Int) + (1 : Int)))]
 [AV.sl (nat_lit 3) (tksL l) Own.no,
 AV.sl (nat_lit 1) (bytesL (jb0 (List.take y (trimEnd l)))) (Own.tok (nat_lit 0)),
 AV.int IntKind.i64 (↑y : Int)] ∧
 StIs
 { boxes := [], live := [((bytesL (jb0 (List.take x (trimEnd l)))).length + (List.map (fun (c : UInt8) => AV.int IntKind.u8 (↑c.toNat : Int)) s_1).length, nat_lit 5)] }
 { boxes := [], live := [((jb0 (List.take y (trimEnd l))).length, nat_lit 5)] } ∧
 (y ≤ l.length ∧ (List.take y (trimEnd l)).all properB = true) ∧ l.length - y < l.length - x)) ∧
 (b = false →
 RetLax (AV.tup [AV.sl (nat_lit 0) [] Own.nil, AV.int IntKind.i64 (3 : Int)])
 (if (trimEnd l).all properB = true then
 if (jb0 (trimEnd l)).length ≤ nat_lit 16384 then
 AV.tup [AV.sl (nat_lit 1) (bytesL (jb0 (trimEnd l))) Own.no, AV.int IntKind.i64 (0 : Int)]
 else AV.tup [AV.sl (nat_lit 1) [] Own.no, AV.int IntKind.i64 (2 : Int)]
 else AV.tup [AV.sl (nat_lit 1) [] Own.no, AV.int IntKind.i64 (3 : Int)],
 [])))) ∧
        (decide ((↑x : Int) < (↑(tksL l).length : Int)) = false →
 (decide ((↑(bytesL (jb0 (List.take x (trimEnd l)))).length : Int) > (16384 : Int)) = true →
 RetLax (AV.tup [AV.sl (nat_lit 0) [] Own.nil, AV.int IntKind.i64 (2 : Int)])
 (if (trimEnd l).all properB = true then
 if (jb0 (trimEnd l)).length ≤ nat_lit 16384 then AV.tup [AV.sl (nat_lit 1) (bytesL (jb0 (trimEnd l))) Own.no, AV.int IntKind.i64 (0 : Int)]
 else AV.tup [AV.sl (nat_lit 1) [] Own.no, AV.int IntKind.i64 (2 : Int)]
 else AV.tup [AV.sl (nat_lit 1) [] Own.no, AV.int IntKind.i64 (3 : Int)],
 [])) ∧
 (decide ((↑(bytesL (jb0 (List.take x (trimEnd l)))).length : Int) > (16384 : Int)) = false →
 RetLax (AV.tup [AV.sl (nat_lit 1) (bytesL (jb0 (List.take x (trimEnd l)))) (Own.tok (nat_lit 0)), AV.int IntKind.i64 (0 : Int)])
 (if (trimEnd l).all properB = true then
 if (jb0 (trimEnd l)).length ≤ nat_lit 16384 then AV.tup [AV.sl (nat_lit 1) (bytesL (jb0 (trimEnd l))) Own.no, AV.int IntKind.i64 (0 : Int)]
 else AV.tup [AV.sl (nat_lit 1) [] Own.no, AV.int IntKind.i64 (2 : Int)]
 else AV.tup [AV.sl (nat_lit 1) [] Own.no, AV.int IntKind.i64 (3 : Int)],
 [])))) := by kernel_rfl
end Go.Abs

namespace Go.Abs
open Go.Proofs L8

theorem retLax_iff2 {r : AV} {s : AV × List (Nat × TypeId)} : RetLax r s ↔ Lax2 r s.1 ∧ s.1.closed2 = true ∧ s.2 = [] := ⟨fun h => ⟨h.lax, h.closed, h.none⟩, fun h => ⟨h.1, h.2.1, h.2.2⟩⟩
theorem tok38 {P : Program} {t : TypeId} (ha : aggA P t = some true) (hs : sizeA P t = some 3) {l : List TI} {i : Nat} (h : i < l.length) : takeAt P t (tksL l) i 0 = some (tiA l[i]) := by
  have he : (tksL l)[i]? = some (tiA l[i]) := by simp [h]
  simp only [takeAt, he, ha, hs, takeA, tiA, AV.cells]
  rfl
theorem agg38 : aggA PP 38 = some true := by kernel_rfl
theorem size38 : sizeA PP 38 = some 3 := by kernel_rfl
theorem trimEnd_nil : trimEnd [] = [] := rfl
theorem trimEnd_last {l : List TI} (h : 0 < l.length) : trimEnd l = if isEnd l[l.length - 1] then l.take (l.length - 1) else l := by
  unfold trimEnd
  rw [List.getLast?_eq_getElem?, List.getElem?_eq_getElem (by omega)]
  simp only [List.dropLast_eq_take]
theorem trimEnd_len (l : List TI) : (trimEnd l).length ≤ l.length ∧ l.length ≤ (trimEnd l).length + 1 := by
  rcases Nat.eq_zero_or_pos l.length with h | h
  · have : l = [] := List.length_eq_zero_iff.1 h
    subst this; simp [trimEnd]
  · rw [trimEnd_last h]
    split
    · rw [List.length_take]; omega
    · omega
theorem trimEnd_get {l : List TI} {i : Nat} (h : i < (trimEnd l).length) : ∃ h' : i < l.length, (trimEnd l)[i] = l[i] := by
  have hl := trimEnd_len l
  refine ⟨by omega, ?_⟩
  have e := trimEnd_last (l := l) (by omega)
  by_cases he : isEnd l[l.length - 1] = true
  · rw [if_pos he] at e
    have h2 := List.getElem?_eq_getElem h
    have h3 : (trimEnd l)[i]? = (l.take (l.length - 1))[i]? := congrArg (·[i]?) e
    rw [h2, List.getElem?_take] at h3
    split at h3
    · rw [List.getElem?_eq_getElem (by omega)] at h3
      exact Option.some.inj h3
    · cases h3
  · rw [if_neg he] at e
    have h2 := List.getElem?_eq_getElem h
    have h3 : (trimEnd l)[i]? = l[i]? := congrArg (·[i]?) e
    rw [h2, List.getElem?_eq_getElem (by omega)] at h3
    exact Option.some.inj h3
theorem trimEnd_small {l : List TI} (h : smallTks l) : smallTks (trimEnd l) := by
  refine ⟨Nat.le_trans (trimEnd_len l).1 h.1, fun t ht => ?_⟩
  obtain ⟨i, hi, rfl⟩ := List.mem_iff_getElem.1 ht
  obtain ⟨h', e⟩ := trimEnd_get hi
  rw [e]
  exact h.2 _ (List.getElem_mem h')
theorem jb0_snoc : ∀ (l : List TI) (t : TI), jb0 (l ++ [t]) = jb0 l ++ (if l = [] then srcT t else 32 :: srcT t)
  | [], t => by simp [jb0]
  | a :: l, t => by simp [jb0]
theorem jb0_succ {l : List TI} {i : Nat} (h : i < l.length) : jb0 (l.take (i + 1)) = jb0 (l.take i) ++ (if i = 0 then srcT l[i] else 32 :: srcT l[i]) := by
  rw [List.take_succ_eq_append_getElem h, jb0_snoc]
  have : (l.take i = []) ↔ i = 0 := by
    cases l with
    | nil => simp at h
    | cons a l => cases i <;> simp
  by_cases h0 : i = 0
  · rw [if_pos (this.2 h0), if_pos h0]
  · rw [if_neg (fun h' => h0 (this.1 h')), if_neg h0]
theorem jb0_len {l : List TI} (h : smallTks l) : ∀ i, i ≤ l.length → (jb0 (l.take i)).length ≤ i * 20003
  | 0, _ => by simp [jb0]
  | i + 1, hi => by
    rw [jb0_succ (by omega)]
    have ih := jb0_len h i (by omega)
    have h1 := srcT_len l[i]
    have h2 := h.2 l[i] (List.getElem_mem (by omega))
    rw [List.length_append]
    split
    · omega
    · rw [List.length_cons]; omega
theorem all_no {l : List TI} {i : Nat} (h : i < l.length) (hp : properB l[i] = false) : l.all properB = false := by
  cases hx : l.all properB with
  | false => rfl
  | true =>
    rw [List.all_eq_true] at hx
    rw [hx _ (List.getElem_mem h)] at hp; cases hp
theorem lax_nil {n k : Int} (h : n = k) : Lax2 (.tup [.sl 0 [] .nil, .int .i64 n]) (.tup [.sl 1 [] .no, .int .i64 k]) := by
  subst h
  simp [Lax2, all2, Lax1, Lax0]
theorem lax_tok {es : List AV} : Lax2 (.tup [.sl 1 es (.tok 0), .int .i64 0]) (.tup [.sl 1 es .no, .int .i64 0]) := by
  simp [Lax2, all2, Lax1, Lax0]
theorem jbR_closed (l : List TI) : (jbR l).1.closed2 = true := by
  unfold jbR
  split
  · split <;> rfl
  · rfl
theorem properB_of {t : TI} (hs : (srcT t).length ≤ 16384) (hp : (probsI (srcT t)).length = 0) (h2 : (toksI (srcT t)).length = 2) {x : TI} (h0 : (toksI (srcT t))[0]? = some x) : properB t = (x.kind == t.kind && (x.text == t.text && (x.at_ == 0))) := by
  have hall := toksI_two h2 h0
  have hpn : probsI (srcT t) = [] := List.length_eq_zero_iff.1 hp
  obtain ⟨a, b, c⟩ := x
  simp only [properB, hs, hpn, hall, decide_true, Bool.true_and]
  by_cases c1 : a = t.kind <;> by_cases c2 : b = t.text <;> by_cases c3 : c = 0 <;> simp [c1, c2, c3]
theorem properB_no {t : TI} (h : ¬ ((srcT t).length ≤ 16384 ∧ (probsI (srcT t)).length = 0 ∧ (toksI (srcT t)).length = 2)) : properB t = false := by
  rw [Bool.eq_false_iff]
  intro hh
  simp only [properB, Bool.and_eq_true, decide_eq_true_eq] at hh
  exact h ⟨hh.1, by rw [hh.2.1]; rfl, by rw [hh.2.2]; rfl⟩
theorem map_bytes (s : List UInt8) : (List.map (fun c => AV.int IntKind.u8 (c.toNat : Int)) s) = bytesL s := rfl
theorem bytes_join {b s : List UInt8} : bytesL b ++ bytesL s = bytesL (b ++ s) := by simp [bytesL]
theorem p21 (m : Int) (l : List TI) (hl : smallTks l) : LaxOk PP (G8 m) XJ (tbl [(12, s12), (34, s23)]) (itbl []) (a21 l) [] 21 [.sl 3 (tksL l) .no] (jbR l) := by
  constructor
  rw [w21]
  have hT := trimEnd_small hl
  have hTl := trimEnd_len l
  have t12 : ∀ x, tbl [(12, s12), (34, s23)] 12 x = s12 x := fun _ => rfl
  have t34 : ∀ t : TI, t ∈ trimEnd l → tbl [(12, s12), (34, s23)] 34 [tiA t] = some (.str (srcT t), []) := fun t ht => s23_ok (Nat.le_trans (hT.2 t ht) (by omega))
  have ll : l.length ≤ 20000 := hl.1
  have hfold : ∀ r, RetLax r (if (trimEnd l).all properB = true then if (jb0 (trimEnd l)).length ≤ 16384 then AV.tup [AV.sl 1 (bytesL (jb0 (trimEnd l))) .no, AV.int .i64 0] else AV.tup [AV.sl 1 [] .no, AV.int .i64 2] else AV.tup [AV.sl 1 [] .no, AV.int .i64 3], []) ↔ Lax2 r (jbR l).1 := fun r => by
    rw [retLax_iff2]; exact ⟨fun h => h.1, fun h => ⟨h, jbR_closed l, rfl⟩⟩
  simp only [hfold, callIs_iff, t12, valsAre_iff, stIs_iff, tksL_length, bytesL_length, map_bytes, Prod.mk.injEq, AV.int.injEq, AV.sl.injEq, St.mk.injEq, List.cons.injEq, and_true, true_and, and_self, true_or, decide_eq_true_eq, decide_eq_false_iff_not, bne_iff_ne, bne_eq_false_iff_eq, beq_iff_eq, beq_eq_false_iff_ne, ne_eq, Int.toNat_natCast, gt_iff_lt, List.length_append, List.length_cons, List.length_nil, true_implies]
  have nilc : ∀ {k : Int}, (trimEnd l).all properB = false → k = 3 → Lax2 (AV.tup [.sl 0 [] .nil, .int .i64 k]) (jbR l).1 := fun h hk => by
    unfold jbR
    rw [if_neg (by rw [h]; decide)]
    exact lax_nil hk
  refine ⟨⟨fun hpos => ?_, fun h0 => ⟨(), ?_⟩⟩, fun _ => ⟨⟨0, ⟨by simp [jb0], rfl⟩, by simp [jb0], Nat.zero_le _, by simp⟩, fun x hx => ⟨fun hlt => ?_, fun hge => ?_⟩⟩⟩
  · have hk : l.length - 1 < l.length := by omega
    have hw : IntKind.i64.wrap ((l.length : Int) - 1) = ((l.length - 1 : Nat) : Int) := by rw [wrap64_in (by omega) (by omega)]; omega
    rw [hw, Int.toNat_natCast]
    obtain ⟨k1, _, _⟩ := tk_at agg3 size3 hk
    obtain ⟨_, u2, _⟩ := tk_at agg9 size9 hk
    have e := trimEnd_last (l := l) (by omega)
    refine ⟨by omega, _, k1, fun c1 => ⟨by omega, _, u2, fun c2 => ⟨by omega, by omega, (), ?_⟩, fun c2 => ⟨(), ?_⟩⟩, fun c1 => ⟨(), ?_⟩⟩
    · rw [e, if_pos (by simp [isEnd, c1, c2])]
      simp [tksL]
    · rw [e, if_neg (by simp [isEnd, c2])]
    · rw [e, if_neg (by simp [isEnd, c1])]
  · have : l = [] := List.length_eq_zero_iff.1 (by omega)
    subst this; rfl
  · have h1 : x < (trimEnd l).length := by omega
    have hmem : (trimEnd l)[x] ∈ trimEnd l := List.getElem_mem h1
    have htx := hT.2 _ hmem
    have hsl := srcT_len (trimEnd l)[x]
    have hjl := jb0_len hT x (by omega)
    have hsucc := jb0_succ h1
    refine ⟨by omega, _, _, _, tok38 agg38 size38 h1, _, t34 _ hmem, by omega, ?_⟩
    have no : properB (trimEnd l)[x] = false → (trimEnd l).all properB = false := all_no h1
    by_cases hs : (srcT (trimEnd l)[x]).length ≤ 16384
    · refine ⟨_, _, _, s12_ok hs, fun h => absurd rfl h, fun _ => ⟨fun hp => ?_, fun hp => ⟨fun h2 => ?_, fun h2 => ?_⟩⟩⟩
      · rw [pbsL_length] at hp
        exact nilc (no (properB_no fun h => by omega)) rfl
      · rw [tksL_length] at h2
        exact nilc (no (properB_no fun h => by omega)) rfl
      · rw [tksL_length] at h2
        rw [pbsL_length] at hp
        rw [tksL_length]
        have h0 : 0 < (toksI (srcT (trimEnd l)[x])).length := by omega
        have hpe := properB_of hs (by omega) (by omega) (List.getElem?_eq_getElem h0)
        rw [← Bool.and_true ((toksI (srcT (trimEnd l)[x]))[0].at_ == 0)] at hpe
        refine ⟨by omega, _, _, _, tok38 agg38 size38 h0, ?_⟩
        rw [← hpe]
        have hnext : properB (trimEnd l)[x] = true → (x + 1 ≤ (trimEnd l).length ∧ ((trimEnd l).take (x + 1)).all properB = true) ∧ l.length - (x + 1) < l.length - x := fun hpr => by
          refine ⟨⟨by omega, ?_⟩, by omega⟩
          rw [List.take_succ_eq_append_getElem h1, List.all_append, hx.2]
          simp [hpr]
        have hwr : IntKind.i64.wrap ((x : Int) + 1) = ((x + 1 : Nat) : Int) := by rw [wrap64_in (by omega) (by omega)]; rfl
        refine ⟨fun hpr => nilc (no (by simpa using hpr)) rfl, fun hpr => ⟨fun hx0 => ⟨by omega, by omega, x + 1, ⟨?_, hwr⟩, ?_, hnext (by simpa using hpr)⟩, fun hx0 => ⟨by omega, x + 1, ⟨?_, hwr⟩, ?_, hnext (by simpa using hpr)⟩⟩⟩
        · rw [hsucc, if_neg (by omega)]
          simp [bytesL]
        · rw [hsucc, if_neg (by omega), List.length_append, List.length_cons]; omega
        · rw [hsucc, if_pos (by omega), bytes_join]
        · rw [hsucc, if_pos (by omega), List.length_append]
    · exact ⟨_, _, _, s12_no hs, fun _ => nilc (no (properB_no fun h => hs h.1)) rfl, fun h => absurd h (by decide)⟩
  · have h1 : x = (trimEnd l).length := by omega
    have hall : (trimEnd l).all properB = true := by have := hx.2; rw [h1, List.take_length] at this; exact this
    rw [h1, List.take_length]
    refine ⟨fun h => ?_, fun h => ?_⟩
    · unfold jbR
      rw [if_pos hall, if_neg (by omega)]
      exact lax_nil rfl
    · unfold jbR
      rw [if_pos hall, if_pos (by omega)]
      exact lax_tok
end Go.Abs

namespace Go.Abs
open Go.Proofs L8
theorem p22 (m : Int) (l : List TI) (hl : smallTks l) : LaxOk PP (G8 m) XJ (tbl [(23, s23), (35, s35)]) (itbl []) (a22 l) [] 22 [.sl 3 (tksL l) .no] (jbR l) := by
  constructor
  rw [w22]
  have hT := trimEnd_small hl
  have hTl := trimEnd_len l
  have t23 : ∀ t : TI, t ∈ l → tbl [(23, s23), (35, s35)] 23 [tiA t] = some (.str (srcT t), []) := fun t ht => s23_ok (Nat.le_trans (hl.2 t ht) (by omega))
  have t35 : ∀ t : TI, t ∈ l → tbl [(23, s23), (35, s35)] 35 [tiA t] = some (.bool (properB t), []) := fun t ht => by
    show (if t.text.length ≤ 900000 then some (AV.bool (properB t), []) else none) = _
    rw [if_pos (Nat.le_trans (hl.2 t ht) (by omega))]
  have ll : l.length ≤ 20000 := hl.1
  have hfold : ∀ r, RetLax r (if (trimEnd l).all properB = true then if (jb0 (trimEnd l)).length ≤ 16384 then AV.tup [AV.sl 1 (bytesL (jb0 (trimEnd l))) .no, AV.int .i64 0] else AV.tup [AV.sl 1 [] .no, AV.int .i64 2] else AV.tup [AV.sl 1 [] .no, AV.int .i64 3], []) ↔ Lax2 r (jbR l).1 := fun r => by
    rw [retLax_iff2]; exact ⟨fun h => h.1, fun h => ⟨h, jbR_closed l, rfl⟩⟩
  simp only [hfold, callIs_iff, valsAre_iff, stIs_iff, tksL_length, bytesL_length, map_bytes, Prod.mk.injEq, AV.int.injEq, AV.sl.injEq, St.mk.injEq, List.cons.injEq, and_true, true_and, true_or, decide_eq_true_eq, decide_eq_false_iff_not, beq_iff_eq, beq_eq_false_iff_ne, ne_eq, Int.toNat_natCast, gt_iff_lt, List.length_append, List.length_cons, List.length_nil]
  refine ⟨⟨0, ⟨by simp [jb0], rfl⟩, by simp [jb0], Nat.zero_le _, by simp⟩, fun x hx => ⟨fun hlt => ?_, fun hge => ?_⟩⟩
  · have h0 : x < l.length := by omega
    have hmem : l[x] ∈ l := List.getElem_mem h0
    have htx := hl.2 _ hmem
    have hsl := srcT_len l[x]
    have hwr : IntKind.i64.wrap ((x : Int) + 1) = ((x + 1 : Nat) : Int) := by rw [wrap64_in (by omega) (by omega)]; rfl
    have hwl : IntKind.i64.wrap ((l.length : Int) - 1) = ((l.length - 1 : Nat) : Int) := by rw [wrap64_in (by omega) (by omega)]; omega
    rw [hwl]
    have tail : x < (trimEnd l).length → ∃ b, tbl [(23, s23), (35, s35)] 35 [AV.agg [.int .i64 l[x].kind, .str l[x].text, .int .i64 l[x].at_]] = some (AV.bool b, []) ∧
        (b = true → (0 < (x : Int) → ((jb0 ((trimEnd l).take x)).length + 1) * 2 ≤ 70368744177664 ∧ ∃ s, tbl [(23, s23), (35, s35)] 23 [AV.agg [.int .i64 l[x].kind, .str l[x].text, .int .i64 l[x].at_]] = some (.str s, []) ∧
            ((jb0 ((trimEnd l).take x)).length + (0 + 1) + s.length) * 2 ≤ 70368744177664 ∧ ∃ y : Nat, (bytesL (jb0 ((trimEnd l).take x)) ++ [AV.int .u8 32] ++ bytesL s = bytesL (jb0 ((trimEnd l).take y)) ∧ IntKind.i64.wrap ((x : Int) + 1) = y) ∧
            (jb0 ((trimEnd l).take x)).length + (0 + 1) + s.length = (jb0 ((trimEnd l).take y)).length ∧ (y ≤ l.length ∧ ((trimEnd l).take y).all properB = true) ∧ l.length - y < l.length - x) ∧
          (¬ 0 < (x : Int) → ∃ s, tbl [(23, s23), (35, s35)] 23 [AV.agg [.int .i64 l[x].kind, .str l[x].text, .int .i64 l[x].at_]] = some (.str s, []) ∧
            ((jb0 ((trimEnd l).take x)).length + s.length) * 2 ≤ 70368744177664 ∧ ∃ y : Nat, (bytesL (jb0 ((trimEnd l).take x)) ++ bytesL s = bytesL (jb0 ((trimEnd l).take y)) ∧ IntKind.i64.wrap ((x : Int) + 1) = y) ∧
            (jb0 ((trimEnd l).take x)).length + s.length = (jb0 ((trimEnd l).take y)).length ∧ (y ≤ l.length ∧ ((trimEnd l).take y).all properB = true) ∧ l.length - y < l.length - x)) ∧
        (b = false → Lax2 (AV.tup [.sl 0 [] .nil, .int .i64 3]) (jbR l).1) := fun h1 => by
      obtain ⟨_, hget⟩ := trimEnd_get h1
      have hjl := jb0_len hT x (by omega)
      have hsucc := jb0_succ h1
      rw [hget] at hsucc
      have hnext : properB l[x] = true → (x + 1 ≤ l.length ∧ ((trimEnd l).take (x + 1)).all properB = true) ∧ l.length - (x + 1) < l.length - x := fun hpr => by
        refine ⟨⟨by omega, ?_⟩, by omega⟩
        rw [List.take_succ_eq_append_getElem h1, List.all_append, hx.2, hget]
        simp [hpr]
      refine ⟨_, t35 _ hmem, fun hpr => ⟨fun hx0 => ⟨by omega, _, t23 _ hmem, by omega, x + 1, ⟨?_, hwr⟩, ?_, hnext hpr⟩, fun hx0 => ⟨_, t23 _ hmem, by omega, x + 1, ⟨?_, hwr⟩, ?_, hnext hpr⟩⟩, fun hpr => ?_⟩
      · rw [hsucc, if_neg (by omega)]
        simp [bytesL]
      · rw [hsucc, if_neg (by omega), List.length_append, List.length_cons]; omega
      · rw [hsucc, if_pos (by omega), bytes_join]
      · rw [hsucc, if_pos (by omega), List.length_append]
      · unfold jbR
        rw [if_neg (by rw [all_no h1 (by rw [hget]; exact hpr)]; decide)]
        exact lax_nil rfl
    have e := trimEnd_last (l := l) (by omega)
    refine ⟨by omega, _, _, _, tok38 agg38 size38 h0, fun hlast => ⟨fun c1 => ⟨fun c2 => ?_, fun c2 => tail ?_⟩, fun c1 => tail ?_⟩, fun hnl => tail ?_⟩
    · have hxe : x = l.length - 1 := by omega
      subst hxe
      have hl1 : (trimEnd l).length = l.length - 1 := by
        rw [e, if_pos (by simp [isEnd, c1, c2]), List.length_take]; omega
      have et : (trimEnd l).take (l.length - 1 + 1) = (trimEnd l).take (l.length - 1) := by
        rw [List.take_of_length_le (by omega), List.take_of_length_le (by omega)]
      exact ⟨l.length - 1 + 1, ⟨by rw [et], hwr⟩, by rw [et], ⟨by omega, by rw [et]; exact hx.2⟩, by omega⟩
    · have hxe : x = l.length - 1 := by omega
      subst hxe
      rw [e, if_neg (by simp [isEnd, c2])]; exact h0
    · have hxe : x = l.length - 1 := by omega
      subst hxe
      rw [e, if_neg (by simp [isEnd, c1])]; exact h0
    · omega
  · have h1 : x = l.length := by omega
    have ht : (trimEnd l).take x = trimEnd l := List.take_of_length_le (by omega)
    have hall : (trimEnd l).all properB = true := by have := hx.2; rw [ht] at this; exact this
    rw [ht]
    refine ⟨fun h => ?_, fun h => ?_⟩
    · unfold jbR
      rw [if_pos hall, if_neg (by omega)]
      exact lax_nil rfl
    · unfold jbR
      rw [if_pos hall, if_pos (by omega)]
      exact lax_tok
theorem s21_some {args : List AV} {r : AV × List (Nat × TypeId)} (h : s21 args = some r) : ∃ l, args = [.sl 3 (tksL l) .no] ∧ smallTks l ∧ r = jbR l := by
  unfold s21 at h
  split at h
  · split at h
    · rename_i hsz
      subst hsz
      split at h
      · rename_i l h1
        obtain rfl := unL_some (g := tiA) (fun _ _ => unTI_some) h1
        split at h
        · rename_i hc
          injection h with h
          exact ⟨l, rfl, hc, h.symm⟩
        · cases h
      · cases h
    · cases h
  · cases h
theorem o21 (m : Int) : SpecOk PP (G8 m) 21 s21 := lax_of (X := XJ) (m := []) mixed8 (tbl_cons (o12' m) (tbl_cons (o34 m) tbl_nil)) itbl_nil fun args r h => by
  obtain ⟨l, rfl, hc, rfl⟩ := s21_some h
  exact ⟨a21 l, p21 m l hc⟩
theorem o22 (m : Int) : SpecOk PP (G8 m) 22 s21 := lax_of (X := XJ) (m := []) mixed8 (tbl_cons (o23 m) (tbl_cons (o35 m) tbl_nil)) itbl_nil fun args r h => by
  obtain ⟨l, rfl, hc, rfl⟩ := s21_some h
  exact ⟨a22 l, p22 m l hc⟩
theorem s21_ok {l : List TI} (h : smallTks l) : s21 [.sl 3 (tksL l) .no] = some (jbR l) := by
  simp only [s21, if_true, unTIs, if_pos h]
end Go.Abs

namespace Go.Abs
open Go.Proofs L8
def wordTok (s : List UInt8) : Bool := decide (probsI s = [] ∧ toksI s = [⟨1, s, 0⟩, ⟨6, [], s.length⟩])
def a10 (s src : List UInt8) : Anns := ⟨fun k => match k with
  | 1000007 => some { α := Unit, slots := [0, 1], nb := 0, vals := fun _ => [.str s, bytesA src], sS := fun _ => ⟨[], []⟩, I := fun _ => True, μ := fun _ => 0 }
  | 1000009 => some { α := Bool, slots := [0, 1, 8], nb := 0, vals := fun b => [.str s, bytesA src, .bool b], sS := fun _ => ⟨[], []⟩, I := fun b => b = wordTok s, μ := fun _ => 0, bools := [8] }
  | 1000011 => some { α := Unit, slots := [1], nb := 0, vals := fun _ => [bytesA src], sS := fun _ => ⟨[], []⟩, I := fun _ => True, μ := fun _ => 0 }
  | 13 => some { α := Nat, slots := [9, 11, 12], nb := 0, vals := fun i => [.sl 3 (tksL (toksI src)) .no, .int .i64 0, .int .i64 i], sS := fun _ => ⟨[], []⟩, I := fun i => i ≤ (toksI src).length, μ := fun i => (toksI src).length - i }
  | _ => none, nA⟩
def gapsB (l : List TI) (gaps : List (List UInt8)) : Nat → List UInt8
  | 0 => []
  | i + 1 => gapsB l gaps i ++ gapR (gaps.getD (i % gaps.length) []) ++ srcT (l.getD i ⟨0, [], 0⟩)
def a9 (l : List TI) (gaps : List (List UInt8)) : Anns := ⟨fun k => if k = 10 then some { α := Nat, slots := [0, 1, 7, 8], nb := 0, vals := fun i => [.sl 3 (tksL l) .no, .sl 1 (gaps.map AV.str) .no, .sl 1 (bytesL (gapsB l gaps i)) (.tok 0), .int .i64 i], sS := fun i => ⟨[], [((gapsB l gaps i).length, 5)]⟩, I := fun i => i ≤ l.length, μ := fun i => l.length - i, mint := [(7, 5)] } else none, nA⟩
def endAt (l : List TI) (i : Nat) : Int := if i = 0 then 0 else (l.getD (i - 1) ⟨0, [], 0⟩).at_ + (srcT (l.getD (i - 1) ⟨0, [], 0⟩)).length
def a6 (src : List UInt8) : Anns := ⟨fun k => match k with
  | 10 => some { α := Nat, slots := [0, 3, 4, 6, 7], nb := 0, vals := fun i => [bytesA src, .sl 3 (tksL (toksI src)) .no, .sl 2 (pbsL (probsI src)) .no, .int .i64 (endAt (toksI src) i), .int .i64 i], sS := fun _ => ⟨[], []⟩, I := fun i => i ≤ (toksI src).length, μ := fun i => (toksI src).length - i }
  | 17 => some { α := Nat, slots := [0, 3, 4, 9], nb := 0, vals := fun i => [bytesA src, .sl 3 (tksL (toksI src)) .no, .sl 2 (pbsL (probsI src)) .no, .int .i64 i], sS := fun _ => ⟨[], []⟩, I := fun i => i ≤ (probsI src).length, μ := fun i => (probsI src).length - i }
  | _ => none, nA⟩
def a24 (s : List UInt8) : Anns := ⟨fun k => match k with
  | 1000004 => some { α := Unit, slots := [0, 3], nb := 0, vals := fun _ => [.str (s.take 20), .sl 1 [.int .u8 32] .full], sS := fun _ => ⟨[], []⟩, I := fun _ => True, μ := fun _ => 0 }
  | 7 => some { α := Nat, slots := [0, 3, 4], nb := 0, vals := fun i => [.str (s.take 20), .sl 1 (bytesL (32 :: 35 :: ((s.take 20).take i).filter (· != 10))) (.tok 0), .int .i64 i], sS := fun i => ⟨[], [((32 :: 35 :: ((s.take 20).take i).filter (· != 10)).length, 5)]⟩, I := fun i => i ≤ (s.take 20).length, μ := fun i => (s.take 20).length - i }
  | 13 => some { α := Nat, slots := [0, 3, 5], nb := 0, vals := fun i => [.str (s.take 20), .sl 1 (bytesL (32 :: ((s.take 20).take i).map gapC)) (.tok 0), .int .i64 i], sS := fun i => ⟨[], [((32 :: ((s.take 20).take i).map gapC).length, 5)]⟩, I := fun i => i ≤ (s.take 20).length, μ := fun i => (s.take 20).length - i, peel := 1 }
  | _ => none, nA⟩

def shiftP (k : Int) (p : PI) : PI := ⟨IntKind.i64.wrap (IntKind.i64.wrap (p.at_ + k) + 1), p.code⟩
def a8 (a b : List UInt8) : Anns := ⟨fun k => match k with
  | 12 => some { α := Nat, slots := [0, 6, 7, 9, 10, 12, 13, 15], nb := 0, vals := fun i => [bytesA a, .sl 3 (tksL (toksI a)) .no, .sl 2 (pbsL (probsI a ++ ((probsI b).take i).map (shiftP a.length))) .no, .sl 3 (tksL (toksI b)) .no, .sl 2 (pbsL (probsI b)) .no, .sl 3 (tksL (toksI (a ++ 10 :: b))) .no, .sl 2 (pbsL (probsI (a ++ 10 :: b))) .no, .int .i64 i], sS := fun _ => ⟨[], []⟩, I := fun i => i ≤ (probsI b).length, μ := fun i => (probsI b).length - i, keep := some 0 }
  | 1000006 => some { α := Unit, slots := [0, 1, 5], nb := 0, vals := fun _ => [bytesA a, bytesA b, .sl 1 (bytesL (a ++ 10 :: b)) .no], sS := fun _ => ⟨[], []⟩, I := fun _ => True, μ := fun _ => 0, keep := some 0 }
  | 1000015 => some { α := Unit, slots := [0, 6, 7, 9, 12, 13], nb := 0, vals := fun _ => [bytesA a, .sl 3 (tksL (toksI a)) .no, .sl 2 (pbsL (probsI a ++ (probsI b).map (shiftP a.length))) .no, .sl 3 (tksL (toksI b)) .no, .sl 3 (tksL (toksI (a ++ 10 :: b))) .no, .sl 2 (pbsL (probsI (a ++ 10 :: b))) .no], sS := fun _ => ⟨[], []⟩, I := fun _ => True, μ := fun _ => 0 }
  | _ => none, nA⟩
end Go.Abs

namespace Go.Abs
open Go.Proofs L8
theorem w5 (m : Int) (l : List TI) (s11 : Spec) : (pureW PP (G8 m) XJ (tbl [(11, s11), (20, s20), (21, s21), (22, s21)]) (itbl []) nAn [] 5 [.sl 3 (tksL l) .no] (.bool true, [])) =
(∃ (b : Bool),
  CallIs (tbl [(nat_lit 11, s11), (nat_lit 20, s20), (nat_lit 21, s21), (nat_lit 22, s21)] (nat_lit 11) []) (AV.bool b) [] ∧
    (b = true →
        ∃ (b : Bool),
 CallIs (tbl [(nat_lit 11, s11), (nat_lit 20, s20), (nat_lit 21, s21), (nat_lit 22, s21)] (nat_lit 20) [AV.sl (nat_lit 3) (tksL l) Own.no]) (AV.bool b)
 [] ∧
 (b = true →
 ∃ (es : List AV),
 ∃ (n : Int),
 CallIs (tbl [(nat_lit 11, s11), (nat_lit 20, s20), (nat_lit 21, s21), (nat_lit 22, s21)] (nat_lit 21) [AV.sl (nat_lit 3) (tksL l) Own.no])
 (AV.tup [AV.sl (nat_lit 1) es Own.no, AV.int IntKind.i64 n]) [] ∧
 ∃ (es_1 : List AV),
 ∃ (n_1 : Int),
 CallIs
 (tbl [(nat_lit 11, s11), (nat_lit 20, s20), (nat_lit 21, s21), (nat_lit 22, s21)] (nat_lit 22)
 [AV.sl (nat_lit 3) (tksL l) Own.no])
 (AV.tup [AV.sl (nat_lit 1) es_1 Own.no, AV.int IntKind.i64 n_1]) [] ∧
 ((n == n_1) = true →
 (nat_lit 1 = nat_lit 1 ∨ es = []) ∧
 ∃ (l : List UInt8),
 List.mapM byteOf es = some l ∧
 (nat_lit 1 = nat_lit 1 ∨ es_1 = []) ∧
 ∃ (l_1 : List UInt8),
 List.mapM byteOf es_1 = some l_1 ∧
 ((l == l_1) = true → RetIs (AV.bool true) [] (AV.bool true, [])) ∧
 ((l == l_1) = false → RetIs (AV.bool false) [] (AV.bool true, []))) ∧
 ((n == n_1) = false → RetIs (AV.bool false) [] (AV.bool true, []))) ∧
 (b = false → RetIs (AV.bool true) [] (AV.bool true, []))) ∧
      (b = false → RetIs (AV.bool false) [] (AV.bool true, []))) := by kernel_rfl
end Go.Abs

namespace Go.Abs
open Go.Proofs L8
theorem mapM_bs : ∀ l : List UInt8, List.mapM byteOf (bytesL l) = some l
  | [] => rfl
  | c :: l => by
    have ih := mapM_bs l
    have h1 : byteOf (.int .u8 (c.toNat : Int)) = some c := by simp [byteOf]
    simp only [bytesL, List.map_cons] at ih ⊢
    rw [List.mapM_cons, h1, ih]
    rfl
theorem smallB_tks {l : List TI} (h : smallB l = true) : smallTks l := by
  simp only [smallB, Bool.and_eq_true, List.all_eq_true, decide_eq_true_eq] at h
  exact ⟨by omega, fun t ht => by have := h.1 t ht; omega⟩
theorem s20_ok {l : List TI} (h : l.length ≤ 9223372036854775807) : s20 [.sl 3 (tksL l) .no] = some (.bool (smallB l), []) := by
  simp only [s20, if_true, unTIs, if_pos h]
/-- what a join returns: its bytes, its code -/
theorem jbR_form (l : List TI) : ∃ (b : List UInt8) (n : Int), jbR l = (.tup [.sl 1 (bytesL b) .no, .int .i64 n], []) ∧ ((n = 0 ∧ (trimEnd l).all properB = true ∧ b = jb0 (trimEnd l) ∧ b.length ≤ 16384) ∨ (n ≠ 0 ∧ ((trimEnd l).all properB = false ∨ ¬ (jb0 (trimEnd l)).length ≤ 16384))) := by
  unfold jbR
  by_cases h1 : (trimEnd l).all properB = true
  · rw [if_pos h1]
    by_cases h2 : (jb0 (trimEnd l)).length ≤ 16384
    · rw [if_pos h2]; exact ⟨_, _, rfl, .inl ⟨rfl, h1, rfl, h2⟩⟩
    · rw [if_neg h2]; exact ⟨[], _, rfl, .inr ⟨by decide, .inr h2⟩⟩
  · rw [if_neg h1]; exact ⟨[], _, rfl, .inr ⟨by decide, .inl (by simpa using h1)⟩⟩
theorem p5 (m : Int) (l : List TI) (hl : l.length ≤ 9223372036854775807) : PureOk PP (G8 m) XJ (tbl [(11, s11), (20, s20), (21, s21), (22, s21)]) (itbl []) nAn [] 5 [.sl 3 (tksL l) .no] (.bool true, []) := by
  constructor
  rw [w5]
  have t11 : tbl [(11, s11), (20, s20), (21, s21), (22, s21)] 11 [] = some (.bool true, []) := rfl
  have t20 : ∀ x, tbl [(11, s11), (20, s20), (21, s21), (22, s21)] 20 x = s20 x := fun _ => rfl
  have t21 : ∀ x, tbl [(11, s11), (20, s20), (21, s21), (22, s21)] 21 x = s21 x := fun _ => rfl
  have t22 : ∀ x, tbl [(11, s11), (20, s20), (21, s21), (22, s21)] 22 x = s21 x := fun _ => rfl
  rw [t11]
  simp only [t20, t21, t22, callIs_iff, retIs_iff, Option.some.injEq, Prod.mk.injEq, AV.bool.injEq, and_true, true_or, true_and]
  refine ⟨true, rfl, fun _ => ⟨_, s20_ok hl, fun hs => ?_, fun _ => trivial⟩, fun h => nomatch h⟩
  obtain ⟨b, n, hj, _⟩ := jbR_form l
  have h21 := s21_ok (smallB_tks hs)
  rw [hj] at h21
  refine ⟨_, _, h21, _, _, h21, fun _ => ⟨_, mapM_bs b, _, mapM_bs b, fun _ => trivial, fun h => by simp at h⟩, fun h => by simp at h⟩
def s5 : Spec := fun args => match args with
  | [.sl sz es .no] => if sz = 3 then match unL unTI es with
    | some l => if l.length ≤ 9223372036854775807 then some (.bool true, []) else none
    | none => none else none
  | _ => none
theorem o5 (m : Int) : SpecOk PP (G8 m) 5 s5 := spec_of (X := XJ) (m := []) mixed8 (tbl_cons (o11 m) (tbl_cons (o20 m) (tbl_cons (o21 m) (tbl_cons (o22 m) tbl_nil)))) itbl_nil fun args r h => by
  unfold s5 at h
  split at h
  · split at h
    · rename_i hsz
      subst hsz
      split at h
      · rename_i l h1
        obtain rfl := unL_some (g := tiA) (fun _ _ => unTI_some) h1
        split at h
        · rename_i hc
          injection h with h; subst h; exact ⟨nAn, p5 m l hc⟩
        · cases h
      · cases h
    · cases h
  · cases h
theorem s5_true {l : List TI} (h : l.length ≤ 9223372036854775807) : s5 [.sl 3 (tksL l) .no] = some (.bool true, []) := by
  simp only [s5, if_true, unTIs, if_pos h]
end Go.Abs

namespace Go.Abs
open Go.Proofs Go.Proofs.YtooobfhjklcnjaaDoor

abbrev laid8 : List (String × DataW Unit) := Rows.lexerTokensRow.laid
theorem gTens : PP.globalNamed "asof/decimal.tens" = some 1 := by kernel_rfl
theorem gFirst : PP.globalNamed "unicode/utf8.first" = some 2 := by kernel_rfl
theorem gAcc : PP.globalNamed "unicode/utf8.acceptRanges" = some 3 := by kernel_rfl
theorem gRange : PP.globalNamed "strconv.ErrRange" = some 5 := by kernel_rfl
def tensL : List Int := [1, 10, 100, 1000, 10000, 100000, 1000000]
section
variable {W : World}
theorem tens_cells (h : laidMet PP laid8 W) : ∀ i, i < 7 → W.cell? ⟨1, i, none⟩ = some (.int .i64 (10 ^ i)) := by
  obtain ⟨g, t, cs, fuel, p, h1, h2, h3, h4⟩ := Lib.laidMet.reads h (n := "asof/decimal.tens") (d := Rows.laid_asof_decimal_tens) (by simp [laid8, Rows.lexerTokensRow])
  obtain rfl := Option.some.inj (gTens.symm.trans h1)
  have ty : ∃ t0 e, (PP.globals[1]?).map (·.type) = some t0 ∧ PP.underlying t0 = some (.array 7 e) ∧ PP.underlying e = some (.int .i64) ∧ PP.cellsOf e = 1 ∧ PP.cellsOf t0 = 7 := ⟨82, 3, by kernel_rfl, by kernel_rfl, by kernel_rfl, by kernel_rfl, by kernel_rfl⟩
  obtain ⟨t0, e, g1, g2, g3, g4, g5⟩ := ty
  obtain rfl := Option.some.inj (g1.symm.trans h2)
  have hcs := Lib.cells_of_tab (zs := tensL) g2 g3 g4 g5 h4
  intro i hi
  rw [World.var?_cell h1 h3 i, ← Array.getElem?_toList, hcs]
  match i, hi with
  | 0, _ | 1, _ | 2, _ | 3, _ | 4, _ | 5, _ | 6, _ => rfl
theorem first_cells (h : laidMet PP laid8 W) : ∀ i, i < 256 → W.cell? ⟨2, i, none⟩ = some (.int .u8 (Lib.firstT i)) := by
  obtain ⟨g, t, cs, fuel, p, h1, h2, h3, h4⟩ := Lib.laidMet.reads h (n := "unicode/utf8.first") (d := Rows.laid_unicode_utf8_first) (by simp [laid8, Rows.lexerTokensRow])
  obtain rfl := Option.some.inj (gFirst.symm.trans h1)
  have ty : ∃ t0 e, (PP.globals[2]?).map (·.type) = some t0 ∧ PP.underlying t0 = some (.array 256 e) ∧ PP.underlying e = some (.int .u8) ∧ PP.cellsOf e = 1 ∧ PP.cellsOf t0 = 256 := ⟨48, 5, by kernel_rfl, by kernel_rfl, by kernel_rfl, by kernel_rfl, by kernel_rfl⟩
  obtain ⟨t0, e, g1, g2, g3, g4, g5⟩ := ty
  obtain rfl := Option.some.inj (g1.symm.trans h2)
  have hd : Rows.laid_unicode_utf8_first = Lib.tabData .u8 Lib.firstTab := by kernel_rfl
  rw [hd] at h4
  have hcs := Lib.cells_of_tab g2 g3 g4 g5 h4
  intro i hi
  rw [World.var?_cell h1 h3 i, ← Array.getElem?_toList, hcs]
  simp [Lib.firstTab, hi]
theorem acc_cells (h : laidMet PP laid8 W) : ∀ i, i < 16 → W.cell? ⟨3, 2 * i, none⟩ = some (.int .u8 (Lib.accLo i)) ∧ W.cell? ⟨3, 2 * i + 1, none⟩ = some (.int .u8 (Lib.accHi i)) := by
  obtain ⟨g, t, cs, fuel, p, h1, h2, h3, h4⟩ := Lib.laidMet.reads h (n := "unicode/utf8.acceptRanges") (d := Rows.laid_unicode_utf8_acceptRanges) (by simp [laid8, Rows.lexerTokensRow])
  obtain rfl := Option.some.inj (gAcc.symm.trans h1)
  have ty : ∃ t0 e f0 f1, (PP.globals[3]?).map (·.type) = some t0 ∧ PP.underlying t0 = some (.array 16 e) ∧ PP.underlying e = some (.struct #[f0, f1]) ∧ PP.cellsOf e = 2 ∧ PP.underlying f0.type = some (.int .u8) ∧ PP.underlying f1.type = some (.int .u8) ∧ f0.offset = 0 ∧ f1.offset = 1 ∧ PP.cellsOf f0.type = 1 ∧ PP.cellsOf f1.type = 1 :=
    ⟨99, 98, _, _, by kernel_rfl, by kernel_rfl, Tryd.underlying98, by kernel_rfl, by kernel_rfl, by kernel_rfl, rfl, rfl, by kernel_rfl, by kernel_rfl⟩
  obtain ⟨t0, e, f0, f1, g1, g2, g3, g4, g5, g6, o0, o1, c0, c1⟩ := ty
  obtain rfl := Option.some.inj (g1.symm.trans h2)
  have hd : Rows.laid_unicode_utf8_acceptRanges = Lib.acceptData := by kernel_rfl
  rw [hd] at h4
  intro i hi
  obtain ⟨fuel', d, q, hdi, he⟩ := Lib.array_elem g2 h4 i hi
  simp only [List.getElem?_map, List.getElem?_range hi, Option.map_some, Option.some.injEq] at hdi
  subst hdi
  rw [g4] at he
  have hcs := Lib.ints_of_struct (k := .u8) g3 (fun j f hj => by
    match j, hj with
    | 0, hj => simp at hj; subst hj; exact ⟨g5, o0, c0⟩
    | 1, hj => simp at hj; subst hj; exact ⟨g6, o1, c1⟩
    | j + 2, hj => simp at hj) (by rw [g4]; rfl) he
  have e0 := congrArg (·[0]?) hcs
  have e1 := congrArg (·[1]?) hcs
  simp only [List.getElem?_take, List.getElem?_drop] at e0 e1
  constructor
  · rw [World.var?_cell h1 h3 (2 * i), ← Array.getElem?_toList]
    simpa [Nat.mul_comm] using e0
  · rw [World.var?_cell h1 h3 (2 * i + 1), ← Array.getElem?_toList]
    simpa [Nat.mul_comm] using e1
theorem range_cell (h : laidMet PP laid8 W) : ∃ t v, W.cell? ⟨5, 0, none⟩ = some (.iface t v) := by
  obtain ⟨g, t, cs, fuel, p, h1, h2, h3, h4⟩ := Lib.laidMet.reads h (n := "strconv.ErrRange") (d := Rows.laid_strconv_ErrRange) (by simp [laid8, Rows.lexerTokensRow])
  obtain rfl := Option.some.inj (gRange.symm.trans h1)
  have ty : ∃ t0 ms, (PP.globals[5]?).map (·.type) = some t0 ∧ PP.underlying t0 = some (.interface ms) := ⟨71, _, by kernel_rfl, Tryd.underlying71⟩
  obtain ⟨t0, ms, g1, g2⟩ := ty
  obtain rfl := Option.some.inj (g1.symm.trans h2)
  obtain ⟨_, u, v, hcs, _⟩ := iface_of_trod g2 h4
  refine ⟨u, v, ?_⟩
  rw [World.var?_cell h1 h3 0, ← Array.getElem?_toList, hcs]
  rfl
theorem keptAcc_at {j : Nat} (h : j < 32) : keptAcc[j]? = some (.int .u8 (if j % 2 = 0 then Lib.accLo (j / 2) else Lib.accHi (j / 2) : Nat)) := by
  match j, h with
  | 0, _ => show some (AV.int .u8 128) = some (.int .u8 (if 0 % 2 = 0 then Lib.accLo (0 / 2) else Lib.accHi (0 / 2) : Nat)); simp [Lib.accLo]
  | 1, _ => show some (AV.int .u8 191) = some (.int .u8 (if 1 % 2 = 0 then Lib.accLo (1 / 2) else Lib.accHi (1 / 2) : Nat)); simp [Lib.accHi]
  | 2, _ => show some (AV.int .u8 160) = some (.int .u8 (if 2 % 2 = 0 then Lib.accLo (2 / 2) else Lib.accHi (2 / 2) : Nat)); simp [Lib.accLo]
  | 3, _ => show some (AV.int .u8 191) = some (.int .u8 (if 3 % 2 = 0 then Lib.accLo (3 / 2) else Lib.accHi (3 / 2) : Nat)); simp [Lib.accHi]
  | 4, _ => show some (AV.int .u8 128) = some (.int .u8 (if 4 % 2 = 0 then Lib.accLo (4 / 2) else Lib.accHi (4 / 2) : Nat)); simp [Lib.accLo]
  | 5, _ => show some (AV.int .u8 159) = some (.int .u8 (if 5 % 2 = 0 then Lib.accLo (5 / 2) else Lib.accHi (5 / 2) : Nat)); simp [Lib.accHi]
  | 6, _ => show some (AV.int .u8 144) = some (.int .u8 (if 6 % 2 = 0 then Lib.accLo (6 / 2) else Lib.accHi (6 / 2) : Nat)); simp [Lib.accLo]
  | 7, _ => show some (AV.int .u8 191) = some (.int .u8 (if 7 % 2 = 0 then Lib.accLo (7 / 2) else Lib.accHi (7 / 2) : Nat)); simp [Lib.accHi]
  | 8, _ => show some (AV.int .u8 128) = some (.int .u8 (if 8 % 2 = 0 then Lib.accLo (8 / 2) else Lib.accHi (8 / 2) : Nat)); simp [Lib.accLo]
  | 9, _ => show some (AV.int .u8 143) = some (.int .u8 (if 9 % 2 = 0 then Lib.accLo (9 / 2) else Lib.accHi (9 / 2) : Nat)); simp [Lib.accHi]
  | 10, _ => show some (AV.int .u8 0) = some (.int .u8 (if 10 % 2 = 0 then Lib.accLo (10 / 2) else Lib.accHi (10 / 2) : Nat)); simp [Lib.accLo]
  | 11, _ => show some (AV.int .u8 0) = some (.int .u8 (if 11 % 2 = 0 then Lib.accLo (11 / 2) else Lib.accHi (11 / 2) : Nat)); simp [Lib.accHi]
  | 12, _ => show some (AV.int .u8 0) = some (.int .u8 (if 12 % 2 = 0 then Lib.accLo (12 / 2) else Lib.accHi (12 / 2) : Nat)); simp [Lib.accLo]
  | 13, _ => show some (AV.int .u8 0) = some (.int .u8 (if 13 % 2 = 0 then Lib.accLo (13 / 2) else Lib.accHi (13 / 2) : Nat)); simp [Lib.accHi]
  | 14, _ => show some (AV.int .u8 0) = some (.int .u8 (if 14 % 2 = 0 then Lib.accLo (14 / 2) else Lib.accHi (14 / 2) : Nat)); simp [Lib.accLo]
  | 15, _ => show some (AV.int .u8 0) = some (.int .u8 (if 15 % 2 = 0 then Lib.accLo (15 / 2) else Lib.accHi (15 / 2) : Nat)); simp [Lib.accHi]
  | 16, _ => show some (AV.int .u8 0) = some (.int .u8 (if 16 % 2 = 0 then Lib.accLo (16 / 2) else Lib.accHi (16 / 2) : Nat)); simp [Lib.accLo]
  | 17, _ => show some (AV.int .u8 0) = some (.int .u8 (if 17 % 2 = 0 then Lib.accLo (17 / 2) else Lib.accHi (17 / 2) : Nat)); simp [Lib.accHi]
  | 18, _ => show some (AV.int .u8 0) = some (.int .u8 (if 18 % 2 = 0 then Lib.accLo (18 / 2) else Lib.accHi (18 / 2) : Nat)); simp [Lib.accLo]
  | 19, _ => show some (AV.int .u8 0) = some (.int .u8 (if 19 % 2 = 0 then Lib.accLo (19 / 2) else Lib.accHi (19 / 2) : Nat)); simp [Lib.accHi]
  | 20, _ => show some (AV.int .u8 0) = some (.int .u8 (if 20 % 2 = 0 then Lib.accLo (20 / 2) else Lib.accHi (20 / 2) : Nat)); simp [Lib.accLo]
  | 21, _ => show some (AV.int .u8 0) = some (.int .u8 (if 21 % 2 = 0 then Lib.accLo (21 / 2) else Lib.accHi (21 / 2) : Nat)); simp [Lib.accHi]
  | 22, _ => show some (AV.int .u8 0) = some (.int .u8 (if 22 % 2 = 0 then Lib.accLo (22 / 2) else Lib.accHi (22 / 2) : Nat)); simp [Lib.accLo]
  | 23, _ => show some (AV.int .u8 0) = some (.int .u8 (if 23 % 2 = 0 then Lib.accLo (23 / 2) else Lib.accHi (23 / 2) : Nat)); simp [Lib.accHi]
  | 24, _ => show some (AV.int .u8 0) = some (.int .u8 (if 24 % 2 = 0 then Lib.accLo (24 / 2) else Lib.accHi (24 / 2) : Nat)); simp [Lib.accLo]
  | 25, _ => show some (AV.int .u8 0) = some (.int .u8 (if 25 % 2 = 0 then Lib.accLo (25 / 2) else Lib.accHi (25 / 2) : Nat)); simp [Lib.accHi]
  | 26, _ => show some (AV.int .u8 0) = some (.int .u8 (if 26 % 2 = 0 then Lib.accLo (26 / 2) else Lib.accHi (26 / 2) : Nat)); simp [Lib.accLo]
  | 27, _ => show some (AV.int .u8 0) = some (.int .u8 (if 27 % 2 = 0 then Lib.accLo (27 / 2) else Lib.accHi (27 / 2) : Nat)); simp [Lib.accHi]
  | 28, _ => show some (AV.int .u8 0) = some (.int .u8 (if 28 % 2 = 0 then Lib.accLo (28 / 2) else Lib.accHi (28 / 2) : Nat)); simp [Lib.accLo]
  | 29, _ => show some (AV.int .u8 0) = some (.int .u8 (if 29 % 2 = 0 then Lib.accLo (29 / 2) else Lib.accHi (29 / 2) : Nat)); simp [Lib.accHi]
  | 30, _ => show some (AV.int .u8 0) = some (.int .u8 (if 30 % 2 = 0 then Lib.accLo (30 / 2) else Lib.accHi (30 / 2) : Nat)); simp [Lib.accLo]
  | 31, _ => show some (AV.int .u8 0) = some (.int .u8 (if 31 % 2 = 0 then Lib.accLo (31 / 2) else Lib.accHi (31 / 2) : Nat)); simp [Lib.accHi]
  | j + 32, h => exact absurd h (by omega)
theorem glob8A (h : laidMet PP laid8 W) {m : Int} (hm : W.cell? ⟨0, 0, none⟩ = some (.int .i64 m)) : GlobOk (G8 m) (oldE W) W := by
  refine globA fun g e hg => ?_
  match g, hg with
  | 0, hg =>
    simp only [G8, Option.some.injEq] at hg
    subst hg
    refine ⟨rfl, fun j c hj => ?_⟩
    match j, hj with
    | 0, hj => simp [AV.cells] at hj; subst hj; exact ⟨_, hm, .int _ _, rfl⟩
    | j + 1, hj => simp [AV.cells] at hj
  | 1, hg =>
    simp only [G8, Option.some.injEq] at hg
    subst hg
    refine ⟨rfl, fun j c hj => ?_⟩
    have hlt : j < 7 := (List.getElem?_eq_some_iff.1 hj).1
    refine ⟨_, tens_cells h j hlt, ?_, rfl⟩
    have : c = .int .i64 (10 ^ j) := by
      match j, hlt with
      | 0, _ | 1, _ | 2, _ | 3, _ | 4, _ | 5, _ | 6, _ => simp [tensA, AV.cells] at hj; subst hj; rfl
    subst this
    exact .int _ _
  | 2, hg =>
    simp only [G8, Option.some.injEq] at hg
    subst hg
    refine ⟨?_, fun j c hj => ?_⟩
    · simp only [keptFirstA, AV.closed1, keptFirst, List.all_map, List.all_eq_true]
      intro x _; rfl
    · have hlt : j < 256 := by
        have := (List.getElem?_eq_some_iff.1 hj).1
        simpa [keptFirstA, AV.cells, keptFirst] using this
      refine ⟨_, first_cells h j hlt, ?_, rfl⟩
      have : c = .int .u8 (Lib.firstT j) := by
        simp only [keptFirstA, AV.cells, keptFirst, List.getElem?_map, List.getElem?_range hlt, Option.map_some, Option.some.injEq] at hj
        exact hj.symm
      subst this
      exact .int _ _
  | 3, hg =>
    simp only [G8, Option.some.injEq] at hg
    subst hg
    refine ⟨rfl, fun j c hj => ?_⟩
    have hlt : j < 32 := (List.getElem?_eq_some_iff.1 hj).1
    have key : W.cell? ⟨3, j, none⟩ = some (.int .u8 (if j % 2 = 0 then Lib.accLo (j / 2) else Lib.accHi (j / 2))) := by
      obtain ⟨a1, a2⟩ := acc_cells h (j / 2) (by omega)
      by_cases hp : j % 2 = 0
      · rw [if_pos hp, show j = 2 * (j / 2) by omega, a1]
        congr 4; omega
      · rw [if_neg hp]
        conv => lhs; rw [show j = 2 * (j / 2) + 1 by omega]
        rw [a2]
    refine ⟨_, key, ?_, rfl⟩
    have h2 := keptAcc_at hlt
    have h3 : keptAcc[j]? = some c := hj
    rw [h3] at h2
    injection h2 with h2
    subst h2
    by_cases hp : j % 2 = 0
    · simp only [hp, if_true]; exact .int _ _
    · simp only [hp, if_false]; exact .int _ _
  | 4, hg => cases hg
  | 5, hg =>
    simp only [G8, Option.some.injEq] at hg
    subst hg
    refine ⟨rfl, fun j c hj => ?_⟩
    match j, hj with
    | 0, hj =>
      simp [AV.cells] at hj; subst hj
      obtain ⟨t, v, hv⟩ := range_cell h
      exact ⟨_, hv, .ifc _ _, rfl⟩
    | j + 1, hj => simp [AV.cells] at hj
  | g + 6, hg => cases hg
end
end Go.Abs

namespace Go.Abs
open Go.Proofs Go.ChangeShapes Go.WideShapes Go.ChangeAt Go.RowKit Go.Deep Go.ChangeMaps

theorem rep_len {E : Env} {w : World} {sz : Nat} {es : List AV} {o : Own} {v : Value} (h : Rep E w (.sl sz es o) v) : es.length ≤ 9223372036854775807 := by
  cases h with | sl _ _ _ A cap u hcap hmax hA hsz hcl ho hr h1 => exact Nat.le_trans hcap hmax
instance : Inhabited TI := ⟨⟨0, [], 0⟩⟩
theorem tok_struct : ∃ f0 f1 f2 : Field, PP.underlying 38 = some (.struct #[f0, f1, f2]) ∧ f0.type = 3 ∧ f0.offset = 0 ∧ f1.type = 9 ∧ f1.offset = 1 ∧ f2.type = 3 ∧ f2.offset = 2 := ⟨_, _, _, Tryd.underlying38, rfl, rfl, rfl, rfl, rfl, rfl⟩
theorem tok_cells : PP.cellsOf 38 = 3 := by kernel_rfl
theorem int_cells : PP.cellsOf 3 = 1 := by kernel_rfl
theorem str_cells : PP.cellsOf 9 = 1 := by kernel_rfl
theorem tiA_ok (a : TI) : (tiA a).cells.length = 3 ∧ (tiA a).closed1 = true := ⟨rfl, rfl⟩
set_option maxRecDepth 100000 in
theorem elem_tok {H : Type} {enc : TypeId × Value → H} {W : World} : ElemOk PP W enc 38 tiA := by
  intro n cs x h
  obtain ⟨f0, f1, f2, hu, t0, o0, t1, o1, t2, o2⟩ := tok_struct
  obtain ⟨xs, m, _, _, hlen, hxl, hf⟩ := DataW.trod_struct hu h
  rw [tok_cells] at hlen
  have h0 := hf 0 f0 rfl
  have h1 := hf 1 f1 rfl
  have h2 := hf 2 f2 rfl
  rw [t0, o0, int_cells] at h0
  rw [t1, o1, str_cells] at h1
  rw [t2, o2, int_cells] at h2
  match cs, hlen, xs, hxl with
  | [c0, c1, c2], _, [y0, y1, y2], _ =>
    simp at h0 h1 h2
    obtain ⟨i, e0, _, wi⟩ := DataW.trod_int Tryd.underlying3 h0
    obtain ⟨s, e1, _, _⟩ := DataW.trod_string Tryd.underlying9 h1
    obtain ⟨k, e2, _, wk⟩ := DataW.trod_int Tryd.underlying3 h2
    simp at e0 e1 e2
    subst e0; subst e1; subst e2
    refine ⟨⟨i, s.data.toList, k⟩, fun E j c u hc hu => ?_⟩
    match j, hc, hu with
    | 0, hc, hu => simp [tiA, AV.cells] at hc hu; subst hc; subst hu; exact ⟨.int _ _, rfl⟩
    | 1, hc, hu => simp [tiA, AV.cells] at hc hu; subst hc; subst hu; exact ⟨mk_str s, rfl⟩
    | 2, hc, hu => simp [tiA, AV.cells] at hc hu; subst hc; subst hu; exact ⟨.int _ _, rfl⟩
    | j + 3, hc, hu => simp [tiA, AV.cells] at hc
set_option maxRecDepth 100000 in
theorem open_toksA {H : Type} {enc : TypeId × Value → H} {W : World} {v : Value} {d : DataW H} {ps : List MemPlace} {b0 : Nat} (hv : Value.okWide PP W .any b0 24 v) (h : DataW.Trod enc PP W 0 (fun _ => true) true 24 v d ps) :
    ∃ l : List TI, Rep (oldE W) W (.sl 3 (tksL l) .no) v :=
  open_slA (P := PP) (g := tiA) (sz := 3) Tryd.underlying24 tok_cells (by omega) tiA_ok elem_tok hv h

theorem witness_row_shaped {H : Type} {enc : TypeId × Value → H} {C : Checked} {os : Os} {f : FuncId} {fn : Func} {s : OpenSpec} {conds : List PathCond} {apart : Bool} {laid : List (String × DataW Unit)} (w0 : World) (args : Array Value) (hos : w0.os = os)
    (hsh : (w0.forCall (fun _ _ => 0) ⟨#[], args, []⟩).Shaped C.prog)
    (hok : Input.okWideB C.prog (w0.forCall (fun _ _ => 0) ⟨#[], args, []⟩) f ⟨#[], args, []⟩ = true)
    (hrow : s.preRow enc C.prog fn conds apart laid (w0.forCall (fun _ _ => 0) ⟨#[], args, []⟩).memory args) :
    ∃ (w : World) (tape : Tape) (i : Input), w.os = os ∧ (w.forCall tape i).Shaped C.prog ∧ i.vars = [] ∧ Input.okWide C.prog (w.forCall tape i) .any w.heap.size f i ∧
      s.preRow enc C.prog fn conds apart laid (w.forCall tape i).memory i.args ∧ ({} : Assume).holds C.prog (lone (Frame.enter C.prog f i.args .normal) [] (w.forCall tape i)) :=
  ⟨w0, fun _ _ => 0, ⟨#[], args, []⟩, hos, hsh, (Input.okWide_of_okWideB (base := 0) hok).1, (Input.okWide_of_okWideB hok).2, hrow, by
    simp only [Assume.holds]
    exact ⟨by simp, by simp, fun _ => Modest.zero, by simp, by simp⟩⟩
end Go.Abs

namespace Go.Abs
open Go.Proofs L8
theorem w7 (m : Int) (src : List UInt8) (s11 : Spec) : (pureW PP (G8 m) XJ (tbl [(11, s11), (12, s12), (14, s14), (21, s21)]) (itbl []) nAn [] 7 [bytesA src] (.bool true, [])) =
(∃ (b : Bool),
  CallIs (tbl [(nat_lit 11, s11), (nat_lit 12, s12), (nat_lit 14, s14), (nat_lit 21, s21)] (nat_lit 11) []) (AV.bool b) [] ∧
    (b = true →
        (decide ((↑(bytesL src).length : Int) > (3000 : Int)) = true → RetIs (AV.bool true) [] (AV.bool true, [])) ∧
 (decide ((↑(bytesL src).length : Int) > (3000 : Int)) = false →
 ∃ (es : List AV),
 ∃ (es_1 : List AV),
 ∃ (n : Int),
 CallIs (tbl [(nat_lit 11, s11), (nat_lit 12, s12), (nat_lit 14, s14), (nat_lit 21, s21)] (nat_lit 12) [AV.sl (nat_lit 1) (bytesL src) Own.no])
 (AV.tup [AV.sl (nat_lit 3) es Own.no, AV.sl (nat_lit 2) es_1 Own.no, AV.int IntKind.i64 n]) [] ∧
 ((n != (0 : Int)) = true → RetIs (AV.bool false) [] (AV.bool true, [])) ∧
 ((n != (0 : Int)) = false →
 ∃ (es_2 : List AV),
 ∃ (n : Int),
 CallIs (tbl [(nat_lit 11, s11), (nat_lit 12, s12), (nat_lit 14, s14), (nat_lit 21, s21)] (nat_lit 21) [AV.sl (nat_lit 3) es Own.no])
 (AV.tup [AV.sl (nat_lit 1) es_2 Own.no, AV.int IntKind.i64 n]) [] ∧
 ((n != (0 : Int)) = true → RetIs (AV.bool false) [] (AV.bool true, [])) ∧
 ((n != (0 : Int)) = false →
 ∃ (es_3 : List AV),
 ∃ (es_4 : List AV),
 ∃ (n : Int),
 CallIs
 (tbl [(nat_lit 11, s11), (nat_lit 12, s12), (nat_lit 14, s14), (nat_lit 21, s21)] (nat_lit 12)
 [AV.sl (nat_lit 1) es_2 Own.no])
 (AV.tup [AV.sl (nat_lit 3) es_3 Own.no, AV.sl (nat_lit 2) es_4 Own.no, AV.int IntKind.i64 n]) [] ∧
 ∃ (es_5 : List AV),
 ∃ (n_1 : Int),
 CallIs
 (tbl [(nat_lit 11, s11), (nat_lit 12, s12), (nat_lit 14, s14), (nat_lit 21, s21)] (nat_lit 21)
 [AV.sl (nat_lit 3) es_3 Own.no])
 (AV.tup [AV.sl (nat_lit 1) es_5 Own.no, AV.int IntKind.i64 n_1]) [] ∧
 ((n == (0 : Int)) = true →
 ((n_1 == (0 : Int)) = true →
 (((↑es_4.length : Int) == (0 : Int)) = true →
 ∃ (b : Bool),
 CallIs
 (tbl [(nat_lit 11, s11), (nat_lit 12, s12), (nat_lit 14, s14), (nat_lit 21, s21)] (nat_lit 14)
 [AV.sl (nat_lit 3) es Own.no, AV.sl (nat_lit 3) es_3 Own.no, AV.bool false,
 AV.int IntKind.i64 (0 : Int)])
 (AV.bool b) [] ∧
 (b = true →
 (nat_lit 1 = nat_lit 1 ∨ es_2 = []) ∧
 ∃ (l : List UInt8),
 List.mapM byteOf es_2 = some l ∧
 (nat_lit 1 = nat_lit 1 ∨ es_5 = []) ∧
 ∃ (l_1 : List UInt8),
 List.mapM byteOf es_5 = some l_1 ∧
 ((l == l_1) = true → RetIs (AV.bool true) [] (AV.bool true, [])) ∧
 ((l == l_1) = false → RetIs (AV.bool false) [] (AV.bool true, []))) ∧
 (b = false → RetIs (AV.bool false) [] (AV.bool true, []))) ∧
 (((↑es_4.length : Int) == (0 : Int)) = false → RetIs (AV.bool false) [] (AV.bool true, []))) ∧
 ((n_1 == (0 : Int)) = false → RetIs (AV.bool false) [] (AV.bool true, []))) ∧
 ((n == (0 : Int)) = false → RetIs (AV.bool false) [] (AV.bool true, [])))))) ∧
      (b = false → RetIs (AV.bool false) [] (AV.bool true, []))) := by kernel_rfl
end Go.Abs

namespace Go.Abs
open Go.Proofs L8

theorem tw_app {p : UInt8 → Bool} {c : UInt8} (hc : p c = false) (b : List UInt8) : ∀ l : List UInt8, (l ++ c :: b).takeWhile p = l.takeWhile p
  | [] => by simp [hc]
  | x :: l => by
    rw [List.cons_append, List.takeWhile_cons, List.takeWhile_cons, tw_app hc b l]
theorem drop_app {n : Nat} {l : List UInt8} (h : n ≤ l.length) (b : List UInt8) : (l ++ b).drop n = l.drop n ++ b := by
  rw [List.drop_append, show n - l.length = 0 by omega]; rfl
theorem take_app {n : Nat} {l : List UInt8} (h : n ≤ l.length) (b : List UInt8) : (l ++ b).take n = l.take n := by
  rw [List.take_append, show n - l.length = 0 by omega]; simp
/-- the digits' piece, split -/
def numP (l : List UInt8) : Int × Nat × Int :=
  match l.drop (l.takeWhile digitB).length with
  | 46 :: u =>
    if (u.takeWhile digitB).length = 0 then (2, (l.takeWhile digitB).length, intErr (l.take (l.takeWhile digitB).length))
    else (3, (l.takeWhile digitB).length + 1 + (u.takeWhile digitB).length, decErr (l.take ((l.takeWhile digitB).length + 1 + (u.takeWhile digitB).length)))
  | _ => (2, (l.takeWhile digitB).length, intErr (l.take (l.takeWhile digitB).length))
def quoP (t : List UInt8) : Int × Nat × Int :=
  match t.drop (t.takeWhile lineB).length with
  | 34 :: _ => (4, (t.takeWhile lineB).length + 2, txtErr (t.takeWhile lineB))
  | _ => (-1, 1, 80)
theorem piece_eq (c : UInt8) (t : List UInt8) : piece (c :: t) =
    if blankB c then (0, 1, 0)
    else if c == 35 then (0, 1 + (t.takeWhile (· != 10)).length, 0)
    else if letterB c then (1, 1 + (t.takeWhile innerB).length, if 24 < 1 + (t.takeWhile innerB).length then 2 else 0)
    else if digitB c then numP (c :: t)
    else if c == 34 then quoP t
    else if eqB c && (t.head?.getD 0 == 61) then (5, 2, 0)
    else if signB c then (5, 1, 0)
    else (-1, 1, 80) := by
  have e : digitB c = true → numP (c :: t) = (match (c :: t).drop (1 + (t.takeWhile digitB).length) with
      | 46 :: u =>
        if (u.takeWhile digitB).length = 0 then (2, 1 + (t.takeWhile digitB).length, intErr ((c :: t).take (1 + (t.takeWhile digitB).length)))
        else (3, 1 + (t.takeWhile digitB).length + 1 + (u.takeWhile digitB).length, decErr ((c :: t).take (1 + (t.takeWhile digitB).length + 1 + (u.takeWhile digitB).length)))
      | _ => (2, 1 + (t.takeWhile digitB).length, intErr ((c :: t).take (1 + (t.takeWhile digitB).length)))) := fun h => by
    have e1 : (c :: t).takeWhile digitB = c :: t.takeWhile digitB := by rw [List.takeWhile_cons, if_pos h]
    unfold numP
    rw [e1, List.length_cons, Nat.add_comm _ 1]
  simp only [piece]
  by_cases h1 : blankB c = true
  · rw [if_pos h1, if_pos h1]
  rw [if_neg h1, if_neg h1]
  by_cases h2 : (c == 35) = true
  · rw [if_pos h2, if_pos h2]
  rw [if_neg h2, if_neg h2]
  by_cases h3 : letterB c = true
  · rw [if_pos h3, if_pos h3]
  rw [if_neg h3, if_neg h3]
  by_cases h4 : digitB c = true
  · rw [if_pos h4, if_pos h4, e h4]
    rfl
  rw [if_neg h4, if_neg h4]
  by_cases h5 : (c == 34) = true
  · rw [if_pos h5, if_pos h5]
    rfl
  rw [if_neg h5, if_neg h5]
/-- a number followed by what does not go on -/
theorem numP_app {l : List UInt8} {c : UInt8} (h1 : digitB c = false) (h2 : c ≠ 46) (b : List UInt8) : numP (l ++ c :: b) = numP l := by
  have hle := tw_le (p := digitB) l
  unfold numP
  rw [tw_app h1 b l, drop_app hle]
  cases hd : l.drop (l.takeWhile digitB).length with
  | nil =>
    rw [List.nil_append, take_app hle]
    split
    · rename_i u he; injection he with he; exact absurd he h2
    · rfl
  | cons x u =>
    have hlen := drop_cons_lt hd
    by_cases hx : x = 46
    · subst hx
      have hu := tw_le (p := digitB) u
      simp only [List.cons_append]
      rw [tw_app h1 b u, take_app hle, take_app (by omega)]
    · simp only [List.cons_append]
      rw [take_app hle]
      split
      · rename_i he; injection he with he; exact absurd he hx
      · split
        · rename_i he; injection he with he; exact absurd he hx
        · rfl
theorem quoP_line {t : List UInt8} (b : List UInt8) : quoP (t ++ 10 :: b) = quoP t := by
  have hle := tw_le (p := lineB) t
  unfold quoP
  rw [tw_app (by rfl) b t, drop_app hle]
  cases hd : t.drop (t.takeWhile lineB).length with
  | nil => rfl
  | cons x u =>
    by_cases hx : x = 34
    · subst hx; rfl
    · simp only [List.cons_append]
      split
      · rename_i he; injection he with he; exact absurd he hx
      · split
        · rename_i he; injection he with he; exact absurd he hx
        · rfl
/-- a line's piece -/
theorem piece_line {l : List UInt8} (h : l ≠ []) (b : List UInt8) : piece (l ++ 10 :: b) = piece l := by
  cases l with
  | nil => exact absurd rfl h
  | cons c t =>
    rw [List.cons_append, piece_eq, piece_eq]
    have e1 := tw_app (p := (· != 10)) (c := 10) rfl b t
    have e2 := tw_app (p := innerB) (c := 10) rfl b t
    have e3 := numP_app (l := c :: t) (c := 10) rfl (by decide) b
    rw [List.cons_append] at e3
    have e4 : ((t ++ 10 :: b).head?.getD 0 == 61) = (t.head?.getD 0 == 61) := by cases t <;> rfl
    rw [e1, e2, e3, e4, quoP_line]

theorem tw_take {p : UInt8 → Bool} : ∀ {l : List UInt8} {k : Nat}, (l.takeWhile p).length ≤ k → (l.take k).takeWhile p = l.takeWhile p
  | [], k, _ => by simp
  | c :: l, 0, h => by
    rw [List.takeWhile_cons] at h ⊢
    split at h
    · simp at h
    · rename_i hc; rw [if_neg hc]; rfl
  | c :: l, k + 1, h => by
    rw [List.take_succ_cons, List.takeWhile_cons, List.takeWhile_cons]
    rw [List.takeWhile_cons] at h
    split
    · rename_i hc
      rw [if_pos hc] at h
      simp only [List.length_cons] at h
      rw [tw_take (by omega)]
    · rfl
theorem tw_in {p : UInt8 → Bool} : ∀ {l : List UInt8} (b : List UInt8), (l.takeWhile p).length < l.length → (l ++ b).takeWhile p = l.takeWhile p
  | [], b, h => by simp at h
  | c :: l, b, h => by
    rw [List.cons_append, List.takeWhile_cons, List.takeWhile_cons]
    rw [List.takeWhile_cons] at h
    split
    · rename_i hc
      rw [if_pos hc] at h
      simp only [List.length_cons] at h
      rw [tw_in b (by omega)]
    · rfl
theorem take_drop' {l : List UInt8} {a k : Nat} : (l.take (a + k)).drop a = (l.drop a).take k := by
  rw [List.drop_take, show a + k - a = k by omega]
theorem numP_take {l : List UInt8} : numP (l.take (numP l).2.1) = numP l := by
  have hle := tw_le (p := digitB) l
  have key : ∀ r : Int × Nat × Int, numP l = r → numP (l.take r.2.1) = r := fun r hr => by
    have hr' := hr
    unfold numP at hr
    cases hd : l.drop (l.takeWhile digitB).length with
    | nil =>
      rw [hd] at hr
      simp only at hr
      subst hr
      have : l.take (l.takeWhile digitB).length = l := List.take_of_length_le (by
        have := congrArg List.length hd
        simp at this; omega)
      simp only [this] at hr' ⊢
      exact hr'
    | cons x u =>
      have hlen := drop_cons_lt hd
      have short : r = (2, (l.takeWhile digitB).length, intErr (l.take (l.takeWhile digitB).length)) → numP (l.take r.2.1) = r := fun e => by
        subst e
        simp only
        unfold numP
        rw [tw_take (Nat.le_refl _), List.take_take, Nat.min_self]
        have : (l.take (l.takeWhile digitB).length).drop (l.takeWhile digitB).length = [] := by
          rw [List.drop_eq_nil_iff, List.length_take]; omega
        rw [this]
      by_cases hx : x = 46
      · subst hx
        rw [hd] at hr
        simp only at hr
        by_cases hu0 : (u.takeWhile digitB).length = 0
        · rw [if_pos hu0] at hr
          exact short hr.symm
        · rw [if_neg hu0] at hr
          subst hr
          have hu := tw_le (p := digitB) u
          simp only
          unfold numP
          rw [tw_take (by omega)]
          have e1 : (l.take ((l.takeWhile digitB).length + 1 + (u.takeWhile digitB).length)).drop (l.takeWhile digitB).length = 46 :: u.take (u.takeWhile digitB).length := by
            rw [Nat.add_assoc, take_drop', hd, Nat.add_comm 1, List.take_succ_cons]
          rw [e1]
          simp only
          rw [tw_take (Nat.le_refl _), if_neg hu0, List.take_take, Nat.min_self]
      · rw [hd] at hr
        refine short ?_
        rw [← hr]
        split
        · rename_i he; injection he with he; exact absurd he hx
        · rfl
  exact key _ rfl
/-- kinds of pieces that are tokens -/
def isTk (k : Int) : Prop := k ≠ 0 ∧ k ≠ -1
theorem quoP_form (t : List UInt8) : (quoP t = (-1, 1, 80)) ∨ (∃ r, t.drop (t.takeWhile lineB).length = 34 :: r ∧ quoP t = (4, (t.takeWhile lineB).length + 2, txtErr (t.takeWhile lineB))) := by
  unfold quoP
  cases hd : t.drop (t.takeWhile lineB).length with
  | nil => exact .inl rfl
  | cons x u =>
    by_cases hx : x = 34
    · subst hx; exact .inr ⟨u, rfl, rfl⟩
    · left
      split
      · rename_i he; injection he with he; exact absurd he hx
      · rfl
theorem quoP_of {t r : List UInt8} (h : t.drop (t.takeWhile lineB).length = 34 :: r) : quoP t = (4, (t.takeWhile lineB).length + 2, txtErr (t.takeWhile lineB)) := by
  unfold quoP
  rw [h]
  rfl
theorem numP_pos {c : UInt8} {t : List UInt8} (h : digitB c = true) : 1 ≤ (numP (c :: t)).2.1 := by
  have e : (c :: t).takeWhile digitB = c :: t.takeWhile digitB := by rw [List.takeWhile_cons, if_pos h]
  unfold numP
  rw [e, List.length_cons]
  split
  · split <;> simp <;> omega
  · simp
theorem piece_take {l : List UInt8} (hk : isTk (piece l).1) : piece (l.take (piece l).2.1) = piece l := by
  cases l with
  | nil => rfl
  | cons c t =>
    have h0 := piece_eq c t
    by_cases h1 : blankB c = true
    · rw [if_pos h1] at h0
      rw [h0] at hk; exact absurd rfl hk.1
    rw [if_neg h1] at h0
    by_cases h2 : (c == 35) = true
    · rw [if_pos h2] at h0
      rw [h0] at hk; exact absurd rfl hk.1
    rw [if_neg h2] at h0
    by_cases h3 : letterB c = true
    · rw [if_pos h3] at h0
      rw [h0]
      simp only
      rw [Nat.add_comm 1, List.take_succ_cons, piece_eq, if_neg h1, if_neg h2, if_pos h3, tw_take (Nat.le_refl _), Nat.add_comm 1]
    rw [if_neg h3] at h0
    by_cases h4 : digitB c = true
    · rw [if_pos h4] at h0
      rw [h0]
      have hp := numP_pos (t := t) h4
      obtain ⟨n, hn⟩ : ∃ n, (numP (c :: t)).2.1 = n + 1 := ⟨(numP (c :: t)).2.1 - 1, by omega⟩
      have ht := numP_take (l := c :: t)
      rw [hn, List.take_succ_cons] at ht
      rw [hn, List.take_succ_cons, piece_eq, if_neg h1, if_neg h2, if_neg h3, if_pos h4, ht]
    rw [if_neg h4] at h0
    by_cases h5 : (c == 34) = true
    · rw [if_pos h5] at h0
      rcases quoP_form t with hq | ⟨r, hd, hq⟩
      · rw [h0, hq] at hk; exact absurd rfl hk.2
      · rw [h0, hq]
        simp only
        have hlen := drop_cons_lt hd
        have e1 : (t.take ((t.takeWhile lineB).length + 1)).takeWhile lineB = t.takeWhile lineB := tw_take (by omega)
        have e2 : (t.take ((t.takeWhile lineB).length + 1)).drop ((t.take ((t.takeWhile lineB).length + 1)).takeWhile lineB).length = 34 :: [] := by
          rw [e1, take_drop', hd]; rfl
        rw [show (t.takeWhile lineB).length + 2 = ((t.takeWhile lineB).length + 1) + 1 from rfl, List.take_succ_cons, piece_eq, if_neg h1, if_neg h2, if_neg h3, if_neg h4, if_pos h5, quoP_of e2, e1]
    rw [if_neg h5] at h0
    by_cases h6 : (eqB c && (t.head?.getD 0 == 61)) = true
    · rw [if_pos h6] at h0
      rw [h0]
      simp only
      have e : (t.take 1).head?.getD 0 = t.head?.getD 0 := by cases t <;> rfl
      rw [show (2 : Nat) = 1 + 1 from rfl, List.take_succ_cons, piece_eq, if_neg h1, if_neg h2, if_neg h3, if_neg h4, if_neg h5, e, if_pos h6]
    rw [if_neg h6] at h0
    by_cases h7 : signB c = true
    · rw [if_pos h7] at h0
      rw [h0]
      simp only
      have e : (eqB c && (([] : List UInt8).head?.getD 0 == 61)) = false := by simp
      rw [show (1 : Nat) = 0 + 1 from rfl, List.take_succ_cons, List.take_zero, piece_eq, if_neg h1, if_neg h2, if_neg h3, if_neg h4, if_neg h5, e, if_neg (by decide), if_pos h7]
    · rw [if_neg h7] at h0
      rw [h0] at hk; exact absurd rfl hk.2
/-- a whole token followed by a blank -/
theorem piece_sep {l : List UInt8} (hk : isTk (piece l).1) (hw : (piece l).2.1 = l.length) (b : List UInt8) : piece (l ++ 32 :: b) = piece l := by
  cases l with
  | nil => exact absurd rfl hk.1
  | cons c t =>
    have h0 := piece_eq c t
    have g0 := piece_eq c (t ++ 32 :: b)
    rw [List.cons_append]
    by_cases h1 : blankB c = true
    · rw [if_pos h1] at h0
      rw [h0] at hk; exact absurd rfl hk.1
    rw [if_neg h1] at h0 g0
    by_cases h2 : (c == 35) = true
    · rw [if_pos h2] at h0
      rw [h0] at hk; exact absurd rfl hk.1
    rw [if_neg h2] at h0 g0
    by_cases h3 : letterB c = true
    · rw [if_pos h3] at h0 g0
      rw [h0, g0, tw_app (by rfl) b t]
    rw [if_neg h3] at h0 g0
    by_cases h4 : digitB c = true
    · rw [if_pos h4] at h0 g0
      rw [h0, g0, ← List.cons_append, numP_app (by rfl) (by decide) b]
    rw [if_neg h4] at h0 g0
    by_cases h5 : (c == 34) = true
    · rw [if_pos h5] at h0 g0
      rcases quoP_form t with hq | ⟨r, hd, hq⟩
      · rw [h0, hq] at hk; exact absurd rfl hk.2
      · have hlen := drop_cons_lt hd
        have e1 : (t ++ 32 :: b).takeWhile lineB = t.takeWhile lineB := tw_in _ (by omega)
        have e2 : (t ++ 32 :: b).drop ((t ++ 32 :: b).takeWhile lineB).length = 34 :: (r ++ 32 :: b) := by
          rw [e1, drop_app (by omega), hd]; rfl
        rw [h0, g0, hq, quoP_of e2, e1]
    rw [if_neg h5] at h0 g0
    by_cases h6 : (eqB c && (t.head?.getD 0 == 61)) = true
    · rw [if_pos h6] at h0
      rw [h0] at hw
      have : t ≠ [] := by rintro rfl; simp at hw
      have e : (t ++ 32 :: b).head?.getD 0 = t.head?.getD 0 := by cases t with
        | nil => exact absurd rfl this
        | cons x t => rfl
      rw [e, if_pos h6] at g0
      rw [h0, g0]
    rw [if_neg h6] at h0
    by_cases h7 : signB c = true
    · rw [if_pos h7] at h0
      rw [h0] at hw
      have : t = [] := by simpa using hw.symm
      subst this
      have e : (eqB c && (([] ++ 32 :: b : List UInt8).head?.getD 0 == 61)) = false := by simp
      rw [e, if_neg (by decide), if_pos h7] at g0
      rw [h0, g0]
    · rw [if_neg h7] at h0
      rw [h0] at hk; exact absurd rfl hk.2
end Go.Abs
