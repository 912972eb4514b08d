/- Own texts, part 7 of 7. -/
import Derived.Test.YtooobfhjklcnjaaDoorPart3
import Derived.Lib.IndexMore
import Derived.Lib.IndexBytes
import Derived.Test.YtooobfhjklcnjaaDoorPart6
import Derived.Test.YtooobfhjklcnjaaDoorPart2
import Derived.Test.YtooobfhjklcnjaaDoorRows
import Derived.Lib.LaidTab
import Derived.Lib.LaidU8
import Derived.LaidLaws
import Derived.Lay
import Derived.Shelf.Lay

namespace Go.Abs
open Go.Proofs
theorem w16 (m : Int) (s : List UInt8) : (pureW PP (G8 m) XW (tbl lib8) (itbl []) nAn [] 16 [.str s] (.bool (kwR s), [])) =
(((!s == []) = true →
    ∃ (b : Bool),
      CallIs (tbl [(50, sIndexByte), (53, sIndexByteString), (32, sContains)] 32 [AV.str s, AV.str [32]]) (AV.bool b) [] ∧
        (b = true → RetIs (AV.bool false) [] (AV.bool (kwR s), [])) ∧
          (b = false →
            1 + s.length ≤ 9223372036854775807 ∧
              ([32] ++ s).length + 1 ≤ 9223372036854775807 ∧
                ∃ (b : Bool),
                  CallIs
                      (some
                        (AV.bool
                            (Lib.contains
                              [32, 116, 97, 98, 108, 101, 32, 102, 101, 97, 116, 117, 114, 101, 32, 111, 102, 32, 107, 101, 101, 112, 32, 98, 111, 111, 108, 32,
                                116, 101, 120, 116, 32, 107, 101, 121, 32, 105, 110, 116, 32, 100, 101, 99, 32, 105, 102, 32, 116, 104, 101, 110, 32, 101, 108,
                                115, 101, 32, 100, 101, 102, 97, 117, 108, 116, 32, 111, 114, 32, 97, 110, 100, 32, 110, 111, 116, 32, 116, 114, 117, 101, 32,
                                102, 97, 108, 115, 101, 32, 110, 117, 108, 108, 32, 99, 111, 117, 110, 116, 32, 115, 117, 109, 32, 109, 101, 97, 110, 32, 109,
                                105, 110, 32, 109, 97, 120, 32, 102, 105, 114, 115, 116, 32, 108, 97, 115, 116, 32, 100, 105, 115, 116, 105, 110, 99, 116, 32,
                                113, 117, 97, 110, 116, 105, 108, 101, 32, 100, 101, 99, 97, 121, 32, 97, 108, 108, 32, 115, 108, 105, 100, 105, 110, 103, 32,
                                116, 117, 109, 98, 108, 105, 110, 103, 32, 115, 101, 115, 115, 105, 111, 110, 32, 119, 104, 101, 114, 101, 32]
                              ([32] ++ s ++ [32])),
                          []))
                      (AV.bool b) [] ∧
                    (b = true → RetIs (AV.bool true) [] (AV.bool (kwR s), [])) ∧ (b = false → RetIs (AV.bool false) [] (AV.bool (kwR s), [])))) ∧
  ((!s == []) = false → RetIs (AV.bool false) [] (AV.bool (kwR s), []))) := by kernel_rfl
theorem w17 (m : Int) (s : List UInt8) : (pureW PP (G8 m) XW (tbl []) (itbl []) nAn [] 17 [.str s] (.bool (kwR s), [])) =
(((s == [116, 97, 98, 108, 101]) = true → RetIs (AV.bool true) [] (AV.bool (kwR s), [])) ∧
  ((s == [116, 97, 98, 108, 101]) = false →
    ((s == [102, 101, 97, 116, 117, 114, 101]) = true → RetIs (AV.bool true) [] (AV.bool (kwR s), [])) ∧
      ((s == [102, 101, 97, 116, 117, 114, 101]) = false →
        ((s == [111, 102]) = true → RetIs (AV.bool true) [] (AV.bool (kwR s), [])) ∧
          ((s == [111, 102]) = false →
            ((s == [107, 101, 101, 112]) = true → RetIs (AV.bool true) [] (AV.bool (kwR s), [])) ∧
              ((s == [107, 101, 101, 112]) = false →
                ((s == [98, 111, 111, 108]) = true → RetIs (AV.bool true) [] (AV.bool (kwR s), [])) ∧
                  ((s == [98, 111, 111, 108]) = false →
                    ((s == [116, 101, 120, 116]) = true → RetIs (AV.bool true) [] (AV.bool (kwR s), [])) ∧
                      ((s == [116, 101, 120, 116]) = false →
                        ((s == [107, 101, 121]) = true → RetIs (AV.bool true) [] (AV.bool (kwR s), [])) ∧
                          ((s == [107, 101, 121]) = false →
                            ((s == [105, 110, 116]) = true → RetIs (AV.bool true) [] (AV.bool (kwR s), [])) ∧
                              ((s == [105, 110, 116]) = false →
                                ((s == [100, 101, 99]) = true → RetIs (AV.bool true) [] (AV.bool (kwR s), [])) ∧
                                  ((s == [100, 101, 99]) = false →
                                    ((s == [105, 102]) = true → RetIs (AV.bool true) [] (AV.bool (kwR s), [])) ∧
                                      ((s == [105, 102]) = false →
                                        ((s == [116, 104, 101, 110]) = true → RetIs (AV.bool true) [] (AV.bool (kwR s), [])) ∧
                                          ((s == [116, 104, 101, 110]) = false →
                                            ((s == [101, 108, 115, 101]) = true → RetIs (AV.bool true) [] (AV.bool (kwR s), [])) ∧
                                              ((s == [101, 108, 115, 101]) = false →
                                                ((s == [100, 101, 102, 97, 117, 108, 116]) = true → RetIs (AV.bool true) [] (AV.bool (kwR s), [])) ∧
                                                  ((s == [100, 101, 102, 97, 117, 108, 116]) = false →
                                                    ((s == [111, 114]) = true → RetIs (AV.bool true) [] (AV.bool (kwR s), [])) ∧
                                                      ((s == [111, 114]) = false →
                                                        ((s == [97, 110, 100]) = true → RetIs (AV.bool true) [] (AV.bool (kwR s), [])) ∧
                                                          ((s == [97, 110, 100]) = false →
                                                            ((s == [110, 111, 116]) = true → RetIs (AV.bool true) [] (AV.bool (kwR s), [])) ∧
                                                              ((s == [110, 111, 116]) = false →
                                                                ((s == [116, 114, 117, 101]) = true → RetIs (AV.bool true) [] (AV.bool (kwR s), [])) ∧
                                                                  ((s == [116, 114, 117, 101]) = false →
                                                                    ((s == [102, 97, 108, 115, 101]) = true → RetIs (AV.bool true) [] (AV.bool (kwR s), [])) ∧
                                                                      ((s == [102, 97, 108, 115, 101]) = false →
                                                                        ((s == [110, 117, 108, 108]) = true → RetIs (AV.bool true) [] (AV.bool (kwR s), [])) ∧
                                                                          ((s == [110, 117, 108, 108]) = false →
                                                                            ((s == [99, 111, 117, 110, 116]) = true →
                                                                                RetIs (AV.bool true) [] (AV.bool (kwR s), [])) ∧
                                                                              ((s == [99, 111, 117, 110, 116]) = false →
                                                                                ((s == [115, 117, 109]) = true →
                                                                                    RetIs (AV.bool true) [] (AV.bool (kwR s), [])) ∧
                                                                                  ((s == [115, 117, 109]) = false →
                                                                                    ((s == [109, 101, 97, 110]) = true →
                                                                                        RetIs (AV.bool true) [] (AV.bool (kwR s), [])) ∧
                                                                                      ((s == [109, 101, 97, 110]) = false →
                                                                                        ((s == [109, 105, 110]) = true →
                                                                                            RetIs (AV.bool true) [] (AV.bool (kwR s), [])) ∧
                                                                                          ((s == [109, 105, 110]) = false →
                                                                                            ((s == [109, 97, 120]) = true →
                                                                                                RetIs (AV.bool true) [] (AV.bool (kwR s), [])) ∧
                                                                                              ((s == [109, 97, 120]) = false →
                                                                                                ((s == [102, 105, 114, 115, 116]) = true →
                                                                                                    RetIs (AV.bool true) [] (AV.bool (kwR s), [])) ∧
                                                                                                  ((s == [102, 105, 114, 115, 116]) = false →
                                                                                                    ((s == [108, 97, 115, 116]) = true →
                                                                                                        RetIs (AV.bool true) [] (AV.bool (kwR s), [])) ∧
                                                                                                      ((s == [108, 97, 115, 116]) = false →
                                                                                                        ((s == [100, 105, 115, 116, 105, 110, 99, 116]) = true →
                                                                                                            RetIs (AV.bool true) [] (AV.bool (kwR s), [])) ∧
                                                                                                          ((s == [100, 105, 115, 116, 105, 110, 99, 116]) =
                                                                                                              false →
                                                                                                            ((s == [113, 117, 97, 110, 116, 105, 108, 101]) =
                                                                                                                  true →
                                                                                                                RetIs (AV.bool true) [] (AV.bool (kwR s), [])) ∧
                                                                                                              ((s == [113, 117, 97, 110, 116, 105, 108, 101]) =
                                                                                                                  false →
                                                                                                                ((s == [100, 101, 99, 97, 121]) = true →
                                                                                                                    RetIs (AV.bool true) []
                                                                                                                      (AV.bool (kwR s), [])) ∧
                                                                                                                  ((s == [100, 101, 99, 97, 121]) = false →
                                                                                                                    ((s == [97, 108, 108]) = true →
                                                                                                                        RetIs (AV.bool true) []
                                                                                                                          (AV.bool (kwR s), [])) ∧
                                                                                                                      ((s == [97, 108, 108]) = false →
                                                                                                                        ((s ==
                                                                                                                                [115, 108, 105, 100, 105, 110,
                                                                                                                                  103]) =
                                                                                                                              true →
                                                                                                                            RetIs (AV.bool true) []
                                                                                                                              (AV.bool (kwR s), [])) ∧
                                                                                                                          ((s ==
                                                                                                                                [115, 108, 105, 100, 105, 110,
                                                                                                                                  103]) =
                                                                                                                              false →
                                                                                                                            ((s ==
                                                                                                                                    [116, 117, 109, 98, 108,
                                                                                                                                      105, 110, 103]) =
                                                                                                                                  true →
                                                                                                                                RetIs (AV.bool true) []
                                                                                                                                  (AV.bool (kwR s), [])) ∧
                                                                                                                              ((s ==
                                                                                                                                    [116, 117, 109, 98, 108,
                                                                                                                                      105, 110, 103]) =
                                                                                                                                  false →
                                                                                                                                ((s ==
                                                                                                                                        [115, 101, 115, 115,
                                                                                                                                          105, 111, 110]) =
                                                                                                                                      true →
                                                                                                                                    RetIs (AV.bool true) []
                                                                                                                                      (AV.bool (kwR s), [])) ∧
                                                                                                                                  ((s ==
                                                                                                                                        [115, 101, 115, 115,
                                                                                                                                          105, 111, 110]) =
                                                                                                                                      false →
                                                                                                                                    ((s ==
                                                                                                                                            [119, 104, 101, 114,
                                                                                                                                              101]) =
                                                                                                                                          true →
                                                                                                                                        RetIs (AV.bool true) []
                                                                                                                                          (AV.bool (kwR s),
                                                                                                                                            [])) ∧
                                                                                                                                      ((s ==
                                                                                                                                            [119, 104, 101, 114,
                                                                                                                                              101]) =
                                                                                                                                          false →
                                                                                                                                        RetIs (AV.bool false) []
                                                                                                                                          (AV.bool (kwR s),
                                                                                                                                            [])))))))))))))))))))))))))))))))))))) := by kernel_rfl
theorem w18 (m : Int) (s : List UInt8) : (pureW PP (G8 m) XW (tbl [(16, s16)]) (itbl []) (a18 s) [] 18 [.str s] (.bool (nameR s), [])) =
(((s == []) = true → RetIs (AV.bool false) [] (AV.bool (nameR s), [])) ∧
  ((s == []) = false →
    (decide ((↑s.length : Int) > 24) = true → RetIs (AV.bool false) [] (AV.bool (nameR s), [])) ∧
      (decide ((↑s.length : Int) > 24) = false →
        ∃ (b : Bool),
          CallIs (tbl [(16, s16)] 16 [AV.str s]) (AV.bool b) [] ∧
            (b = true → RetIs (AV.bool false) [] (AV.bool (nameR s), [])) ∧
              (b = false →
                (∃ (y : Int),
                    ValsAre [AV.str s, AV.int IntKind.i64 (↑s.length : Int), AV.int IntKind.i64 0]
                        [AV.str s, AV.int IntKind.i64 (↑s.length : Int), AV.int IntKind.i64 y] ∧
                      StIs { boxes := [], live := [] } { boxes := [], live := [] } ∧ (∃ (k : Nat), y = (↑k : Int) ∧ k ≤ s.length ∧ (1 ≤ k → k ≤ wl s)) ∧ True) ∧
                  ∀ (x : Int),
                    (∃ (k : Nat), x = (↑k : Int) ∧ k ≤ s.length ∧ (1 ≤ k → k ≤ wl s)) →
                      (decide (x < (↑s.length : Int)) = true →
                          0 ≤ x ∧
                            ∃ (c : UInt8),
                              s[x.toNat]? = some c ∧
                                (decide ((↑c.toNat : Int) ≥ 97) = true →
                                    (decide ((↑c.toNat : Int) ≤ 122) = true →
                                        ∃ (y : Int),
                                          ValsAre [AV.str s, AV.int IntKind.i64 (↑s.length : Int), AV.int IntKind.i64 (IntKind.i64.wrap (x + 1))]
                                              [AV.str s, AV.int IntKind.i64 (↑s.length : Int), AV.int IntKind.i64 y] ∧
                                            StIs { boxes := [], live := [] } { boxes := [], live := [] } ∧
                                              (∃ (k : Nat), y = (↑k : Int) ∧ k ≤ s.length ∧ (1 ≤ k → k ≤ wl s)) ∧
                                                ((↑s.length : Int) - y).toNat < ((↑s.length : Int) - x).toNat) ∧
                                      (decide ((↑c.toNat : Int) ≤ 122) = false →
                                        (decide (x > 0) = true →
                                            (decide ((↑c.toNat : Int) ≥ 48) = true →
                                                (decide ((↑c.toNat : Int) ≤ 57) = true →
                                                    ∃ (y : Int),
                                                      ValsAre [AV.str s, AV.int IntKind.i64 (↑s.length : Int), AV.int IntKind.i64 (IntKind.i64.wrap (x + 1))]
                                                          [AV.str s, AV.int IntKind.i64 (↑s.length : Int), AV.int IntKind.i64 y] ∧
                                                        StIs { boxes := [], live := [] } { boxes := [], live := [] } ∧
                                                          (∃ (k : Nat), y = (↑k : Int) ∧ k ≤ s.length ∧ (1 ≤ k → k ≤ wl s)) ∧
                                                            ((↑s.length : Int) - y).toNat < ((↑s.length : Int) - x).toNat) ∧
                                                  (decide ((↑c.toNat : Int) ≤ 57) = false →
                                                    (((↑c.toNat : Int) == 95) = true →
                                                        ∃ (y : Int),
                                                          ValsAre
                                                              [AV.str s, AV.int IntKind.i64 (↑s.length : Int), AV.int IntKind.i64 (IntKind.i64.wrap (x + 1))]
                                                              [AV.str s, AV.int IntKind.i64 (↑s.length : Int), AV.int IntKind.i64 y] ∧
                                                            StIs { boxes := [], live := [] } { boxes := [], live := [] } ∧
                                                              (∃ (k : Nat), y = (↑k : Int) ∧ k ≤ s.length ∧ (1 ≤ k → k ≤ wl s)) ∧
                                                                ((↑s.length : Int) - y).toNat < ((↑s.length : Int) - x).toNat) ∧
                                                      (((↑c.toNat : Int) == 95) = false → RetIs (AV.bool false) [] (AV.bool (nameR s), [])))) ∧
                                              (decide ((↑c.toNat : Int) ≥ 48) = false →
                                                (((↑c.toNat : Int) == 95) = true →
                                                    ∃ (y : Int),
                                                      ValsAre [AV.str s, AV.int IntKind.i64 (↑s.length : Int), AV.int IntKind.i64 (IntKind.i64.wrap (x + 1))]
                                                          [AV.str s, AV.int IntKind.i64 (↑s.length : Int), AV.int IntKind.i64 y] ∧
                                                        StIs { boxes := [], live := [] } { boxes := [], live := [] } ∧
                                                          (∃ (k : Nat), y = (↑k : Int) ∧ k ≤ s.length ∧ (1 ≤ k → k ≤ wl s)) ∧
                                                            ((↑s.length : Int) - y).toNat < ((↑s.length : Int) - x).toNat) ∧
                                                  (((↑c.toNat : Int) == 95) = false → RetIs (AV.bool false) [] (AV.bool (nameR s), [])))) ∧
                                          (decide (x > 0) = false → RetIs (AV.bool false) [] (AV.bool (nameR s), [])))) ∧
                                  (decide ((↑c.toNat : Int) ≥ 97) = false →
                                    (decide (x > 0) = true →
                                        (decide ((↑c.toNat : Int) ≥ 48) = true →
                                            (decide ((↑c.toNat : Int) ≤ 57) = true →
                                                ∃ (y : Int),
                                                  ValsAre [AV.str s, AV.int IntKind.i64 (↑s.length : Int), AV.int IntKind.i64 (IntKind.i64.wrap (x + 1))]
                                                      [AV.str s, AV.int IntKind.i64 (↑s.length : Int), AV.int IntKind.i64 y] ∧
                                                    StIs { boxes := [], live := [] } { boxes := [], live := [] } ∧
                                                      (∃ (k : Nat), y = (↑k : Int) ∧ k ≤ s.length ∧ (1 ≤ k → k ≤ wl s)) ∧
                                                        ((↑s.length : Int) - y).toNat < ((↑s.length : Int) - x).toNat) ∧
                                              (decide ((↑c.toNat : Int) ≤ 57) = false →
                                                (((↑c.toNat : Int) == 95) = true →
                                                    ∃ (y : Int),
                                                      ValsAre [AV.str s, AV.int IntKind.i64 (↑s.length : Int), AV.int IntKind.i64 (IntKind.i64.wrap (x + 1))]
                                                          [AV.str s, AV.int IntKind.i64 (↑s.length : Int), AV.int IntKind.i64 y] ∧
                                                        StIs { boxes := [], live := [] } { boxes := [], live := [] } ∧
                                                          (∃ (k : Nat), y = (↑k : Int) ∧ k ≤ s.length ∧ (1 ≤ k → k ≤ wl s)) ∧
                                                            ((↑s.length : Int) - y).toNat < ((↑s.length : Int) - x).toNat) ∧
                                                  (((↑c.toNat : Int) == 95) = false → RetIs (AV.bool false) [] (AV.bool (nameR s), [])))) ∧
                                          (decide ((↑c.toNat : Int) ≥ 48) = false →
                                            (((↑c.toNat : Int) == 95) = true →
                                                ∃ (y : Int),
                                                  ValsAre [AV.str s, AV.int IntKind.i64 (↑s.length : Int), AV.int IntKind.i64 (IntKind.i64.wrap (x + 1))]
                                                      [AV.str s, AV.int IntKind.i64 (↑s.length : Int), AV.int IntKind.i64 y] ∧
                                                    StIs { boxes := [], live := [] } { boxes := [], live := [] } ∧
                                                      (∃ (k : Nat), y = (↑k : Int) ∧ k ≤ s.length ∧ (1 ≤ k → k ≤ wl s)) ∧
                                                        ((↑s.length : Int) - y).toNat < ((↑s.length : Int) - x).toNat) ∧
                                              (((↑c.toNat : Int) == 95) = false → RetIs (AV.bool false) [] (AV.bool (nameR s), [])))) ∧
                                      (decide (x > 0) = false → RetIs (AV.bool false) [] (AV.bool (nameR s), [])))) ∧
                        (decide (x < (↑s.length : Int)) = false → RetIs (AV.bool true) [] (AV.bool (nameR s), [])))))) := by kernel_rfl
theorem w19 (m : Int) (s : List UInt8) : (pureW PP (G8 m) XW (tbl [(17, s17), (33, s33')]) (itbl []) nAn [] 19 [.str s] (.bool (nameR s), [])) =
(((!s == []) = true →
    (decide ((↑s.length : Int) ≤ 24) = true →
        s.length ≤ 70368744177664 ∧
          ∃ (n : Int),
            CallIs (tbl [(17, s17), (33, s33')] 33 [AV.sl 1 (List.map (fun (c : UInt8) => AV.int IntKind.u8 (↑c.toNat : Int)) s) Own.no, AV.int IntKind.i64 0])
                (AV.int IntKind.i64 n) [] ∧
              ((n == (↑s.length : Int)) = true →
                  ∃ (b : Bool),
                    CallIs (some (AV.bool (kwR s), [])) (AV.bool b) [] ∧
                      (b = true → RetIs (AV.bool false) [] (AV.bool (nameR s), [])) ∧ (b = false → RetIs (AV.bool true) [] (AV.bool (nameR s), []))) ∧
                ((n == (↑s.length : Int)) = false → RetIs (AV.bool false) [] (AV.bool (nameR s), []))) ∧
      (decide ((↑s.length : Int) ≤ 24) = false → RetIs (AV.bool false) [] (AV.bool (nameR s), []))) ∧
  ((!s == []) = false → RetIs (AV.bool false) [] (AV.bool (nameR s), []))) := by kernel_rfl
theorem w4 (m : Int) (s : List UInt8) (s11 : Spec) : (pureW PP (G8 m) XW (tbl [(11, s11), (16, s16), (17, s17), (18, s18), (19, s18)]) (itbl []) nAn [] 4 [.str s] (.bool true, [])) =
(∃ (b : Bool),
  CallIs (tbl [(11, s11), (16, s16), (17, s17), (18, s18), (19, s18)] 11 []) (AV.bool b) [] ∧
    (b = true →
        (decide ((↑s.length : Int) > 200) = true → RetIs (AV.bool true) [] (AV.bool true, [])) ∧
          (decide ((↑s.length : Int) > 200) = false →
            ∃ (b : Bool),
              CallIs (tbl [(11, s11), (16, s16), (17, s17), (18, s18), (19, s18)] 16 [AV.str s]) (AV.bool b) [] ∧
                (b = true →
                    ∃ (b : Bool),
                      CallIs (some (AV.bool (kwR s), [])) (AV.bool b) [] ∧
                        (b = true →
                            (true = true →
                                ∃ (b : Bool),
                                  CallIs (tbl [(11, s11), (16, s16), (17, s17), (18, s18), (19, s18)] 18 [AV.str s]) (AV.bool b) [] ∧
                                    (b = true →
                                        ∃ (b : Bool),
                                          CallIs (tbl [(11, s11), (16, s16), (17, s17), (18, s18), (19, s18)] 19 [AV.str s]) (AV.bool b) [] ∧
                                            (b = true →
                                                (true = true → RetIs (AV.bool true) [] (AV.bool true, [])) ∧
                                                  (true = false → RetIs (AV.bool false) [] (AV.bool true, []))) ∧
                                              (b = false →
                                                (false = true → RetIs (AV.bool true) [] (AV.bool true, [])) ∧
                                                  (false = false → RetIs (AV.bool false) [] (AV.bool true, [])))) ∧
                                      (b = false →
                                        ∃ (b : Bool),
                                          CallIs (tbl [(11, s11), (16, s16), (17, s17), (18, s18), (19, s18)] 19 [AV.str s]) (AV.bool b) [] ∧
                                            (b = true →
                                                (false = true → RetIs (AV.bool true) [] (AV.bool true, [])) ∧
                                                  (false = false → RetIs (AV.bool false) [] (AV.bool true, []))) ∧
                                              (b = false →
                                                (true = true → RetIs (AV.bool true) [] (AV.bool true, [])) ∧
                                                  (true = false → RetIs (AV.bool false) [] (AV.bool true, []))))) ∧
                              (true = false → RetIs (AV.bool false) [] (AV.bool true, []))) ∧
                          (b = false →
                            (false = true →
                                ∃ (b : Bool),
                                  CallIs (tbl [(11, s11), (16, s16), (17, s17), (18, s18), (19, s18)] 18 [AV.str s]) (AV.bool b) [] ∧
                                    (b = true →
                                        ∃ (b : Bool),
                                          CallIs (tbl [(11, s11), (16, s16), (17, s17), (18, s18), (19, s18)] 19 [AV.str s]) (AV.bool b) [] ∧
                                            (b = true →
                                                (true = true → RetIs (AV.bool true) [] (AV.bool true, [])) ∧
                                                  (true = false → RetIs (AV.bool false) [] (AV.bool true, []))) ∧
                                              (b = false →
                                                (false = true → RetIs (AV.bool true) [] (AV.bool true, [])) ∧
                                                  (false = false → RetIs (AV.bool false) [] (AV.bool true, [])))) ∧
                                      (b = false →
                                        ∃ (b : Bool),
                                          CallIs (tbl [(11, s11), (16, s16), (17, s17), (18, s18), (19, s18)] 19 [AV.str s]) (AV.bool b) [] ∧
                                            (b = true →
                                                (false = true → RetIs (AV.bool true) [] (AV.bool true, [])) ∧
                                                  (false = false → RetIs (AV.bool false) [] (AV.bool true, []))) ∧
                                              (b = false →
                                                (true = true → RetIs (AV.bool true) [] (AV.bool true, [])) ∧
                                                  (true = false → RetIs (AV.bool false) [] (AV.bool true, []))))) ∧
                              (false = false → RetIs (AV.bool false) [] (AV.bool true, [])))) ∧
                  (b = false →
                    ∃ (b : Bool),
                      CallIs (some (AV.bool (kwR s), [])) (AV.bool b) [] ∧
                        (b = true →
                            (false = true →
                                ∃ (b : Bool),
                                  CallIs (tbl [(11, s11), (16, s16), (17, s17), (18, s18), (19, s18)] 18 [AV.str s]) (AV.bool b) [] ∧
                                    (b = true →
                                        ∃ (b : Bool),
                                          CallIs (tbl [(11, s11), (16, s16), (17, s17), (18, s18), (19, s18)] 19 [AV.str s]) (AV.bool b) [] ∧
                                            (b = true →
                                                (true = true → RetIs (AV.bool true) [] (AV.bool true, [])) ∧
                                                  (true = false → RetIs (AV.bool false) [] (AV.bool true, []))) ∧
                                              (b = false →
                                                (false = true → RetIs (AV.bool true) [] (AV.bool true, [])) ∧
                                                  (false = false → RetIs (AV.bool false) [] (AV.bool true, [])))) ∧
                                      (b = false →
                                        ∃ (b : Bool),
                                          CallIs (tbl [(11, s11), (16, s16), (17, s17), (18, s18), (19, s18)] 19 [AV.str s]) (AV.bool b) [] ∧
                                            (b = true →
                                                (false = true → RetIs (AV.bool true) [] (AV.bool true, [])) ∧
                                                  (false = false → RetIs (AV.bool false) [] (AV.bool true, []))) ∧
                                              (b = false →
                                                (true = true → RetIs (AV.bool true) [] (AV.bool true, [])) ∧
                                                  (true = false → RetIs (AV.bool false) [] (AV.bool true, []))))) ∧
                              (false = false → RetIs (AV.bool false) [] (AV.bool true, []))) ∧
                          (b = false →
                            (true = true →
                                ∃ (b : Bool),
                                  CallIs (tbl [(11, s11), (16, s16), (17, s17), (18, s18), (19, s18)] 18 [AV.str s]) (AV.bool b) [] ∧
                                    (b = true →
                                        ∃ (b : Bool),
                                          CallIs (tbl [(11, s11), (16, s16), (17, s17), (18, s18), (19, s18)] 19 [AV.str s]) (AV.bool b) [] ∧
                                            (b = true →
                                                (true = true → RetIs (AV.bool true) [] (AV.bool true, [])) ∧
                                                  (true = false → RetIs (AV.bool false) [] (AV.bool true, []))) ∧
                                              (b = false →
                                                (false = true → RetIs (AV.bool true) [] (AV.bool true, [])) ∧
                                                  (false = false → RetIs (AV.bool false) [] (AV.bool true, [])))) ∧
                                      (b = false →
                                        ∃ (b : Bool),
                                          CallIs (tbl [(11, s11), (16, s16), (17, s17), (18, s18), (19, s18)] 19 [AV.str s]) (AV.bool b) [] ∧
                                            (b = true →
                                                (false = true → RetIs (AV.bool true) [] (AV.bool true, [])) ∧
                                                  (false = false → RetIs (AV.bool false) [] (AV.bool true, []))) ∧
                                              (b = false →
                                                (true = true → RetIs (AV.bool true) [] (AV.bool true, [])) ∧
                                                  (true = false → RetIs (AV.bool false) [] (AV.bool true, []))))) ∧
                              (true = false → RetIs (AV.bool false) [] (AV.bool true, [])))))) ∧
      (b = false → RetIs (AV.bool false) [] (AV.bool true, []))) := by kernel_rfl
end Go.Abs

namespace Go.Abs
open Go.Proofs

theorem p17 (m : Int) (s : List UInt8) : PureOk PP (G8 m) XW (tbl []) (itbl []) nAn [] 17 [.str s] (.bool (kwR s), []) := by
  constructor
  rw [w17]
  simp only [retIs_iff, Prod.mk.injEq, AV.bool.injEq, and_true, kwR, kwList, List.contains_cons, List.contains_nil, beq_iff_eq, beq_eq_false_iff_ne, ne_eq]
  repeat' (refine And.intro (fun h => ?_) (fun h => ?_))
  all_goals simp [*]

theorem p19 (m : Int) (s : List UInt8) : PureOk PP (G8 m) XW (tbl [(17, s17), (33, s33')]) (itbl []) nAn [] 19 [.str s] (.bool (nameR s), []) := by
  constructor
  rw [w19]
  have hb := unBytes_mk s
  unfold bytesL at hb
  simp only [callIs_iff, retIs_iff, Prod.mk.injEq, AV.bool.injEq, Option.some.injEq, and_true, exists_eq_left', tbl, s33', hb, decide_eq_true_eq, decide_eq_false_iff_not]
  refine ⟨fun h1 => ⟨fun h2 => ⟨by omega, ?_⟩, fun h2 => ?_⟩, fun h1 => ?_⟩
  · have hne : s ≠ [] := by simpa using h1
    have hp : 0 < s.length := List.length_pos_iff.2 hne
    refine ⟨wl s, ?_, fun h3 => ⟨fun h4 => ?_, fun h4 => ?_⟩, fun h3 => ?_⟩
    · have hc : 0 ≤ (0 : Int) ∧ Int.toNat 0 < s.length ∧ s.length < 2 ^ 60 := ⟨by omega, by simpa using hp, by omega⟩
      simp [hc, hne]
    · simp [nameR, h4]
    · have h3' : wl s = s.length := by have := eq_of_beq h3; omega
      simp [nameR, h4, hne, h3']
      omega
    · have h3' : wl s ≠ s.length := fun e => by rw [e] at h3; simp at h3
      simp [nameR, h3']
  · simp [nameR]; intro _ h; omega
  · have : s = [] := by simpa using h1
    simp [nameR, this]

theorem p4 (m : Int) (s : List UInt8) (s11 : Spec) (h11 : s11 [] = some (.bool true, [])) : PureOk PP (G8 m) XW (tbl [(11, s11), (16, s16), (17, s17), (18, s18), (19, s18)]) (itbl []) nAn [] 4 [.str s] (.bool true, []) := by
  constructor
  rw [w4]
  have t11 : tbl [(11, s11), (16, s16), (17, s17), (18, s18), (19, s18)] 11 [] = some (.bool true, []) := h11
  have t16 : s.length ≤ 1000000 → tbl [(11, s11), (16, s16), (17, s17), (18, s18), (19, s18)] 16 [.str s] = some (.bool (kwR s), []) := fun h => by
    show s16 [.str s] = _
    simp [s16, h]
  have t18 : s.length ≤ 1000000 → tbl [(11, s11), (16, s16), (17, s17), (18, s18), (19, s18)] 18 [.str s] = some (.bool (nameR s), []) := fun h => by
    show s18 [.str s] = _
    simp [s18, h]
  have t19 : s.length ≤ 1000000 → tbl [(11, s11), (16, s16), (17, s17), (18, s18), (19, s18)] 19 [.str s] = some (.bool (nameR s), []) := fun h => by
    show s18 [.str s] = _
    simp [s18, h]
  refine ⟨true, ⟨t11⟩, fun _ => ⟨fun _ => ⟨rfl⟩, fun hl => ?_⟩, fun h => nomatch h⟩
  have hl' : s.length ≤ 1000000 := by
    have := of_decide_eq_false hl
    omega
  rw [t16 hl', t18 hl', t19 hl']
  simp only [callIs_iff, retIs_iff, Prod.mk.injEq, AV.bool.injEq, Option.some.injEq, and_true, exists_eq_left']
  cases kwR s <;> cases nameR s <;> simp

theorem p18 (m : Int) (s : List UInt8) (hs : s.length ≤ 1000000) : PureOk PP (G8 m) XW (tbl [(16, s16)]) (itbl []) (a18 s) [] 18 [.str s] (.bool (nameR s), []) := by
  constructor
  rw [w18]
  have t16 : tbl [(16, s16)] 16 [.str s] = some (.bool (kwR s), []) := by
    show s16 [.str s] = _
    simp [s16, hs]
  rw [t16]
  simp only [callIs_iff, valsAre_iff, stIs_iff, retIs_iff, Prod.mk.injEq, AV.bool.injEq, AV.int.injEq, Option.some.injEq, List.cons.injEq, and_true, true_and, exists_eq_left', decide_eq_true_eq, decide_eq_false_iff_not, beq_iff_eq, beq_eq_false_iff_ne, ne_eq]
  refine ⟨fun h => by simp [nameR, h], fun hne => ⟨fun h => ?_, fun hl => ⟨fun h => by simp [nameR, h], fun hk => ⟨⟨0, rfl, by omega, by omega⟩, ?_⟩⟩⟩⟩
  · simp [nameR]; intro _ h2; omega
  · rintro x ⟨k, rfl, hk1, hk2⟩
    rw [wrap64_in (n := (k : Int) + 1) (by omega) (by omega)]
    have hw := wl_le s
    refine ⟨fun hlt => ?_, fun hge => ?_⟩
    · have hlt' : k < s.length := by omega
      refine ⟨by omega, s.getD k 0, by simp [hlt'], ?_⟩
      have hlet : letterB (s.getD k 0) = decide (97 ≤ (s.getD k 0).toNat ∧ (s.getD k 0).toNat ≤ 122) := rfl
      have h95 : (s.getD k 0).toNat = 95 ↔ s.getD k 0 = 95 := by
        rw [← UInt8.toNat_inj]; rfl
      have hin : innerB (s.getD k 0) = true ↔ (97 ≤ (s.getD k 0).toNat ∧ (s.getD k 0).toNat ≤ 122) ∨ (48 ≤ (s.getD k 0).toNat ∧ (s.getD k 0).toNat ≤ 57) ∨ (s.getD k 0).toNat = 95 := by
        rw [h95]
        simp only [innerB, letterB, digitB, Bool.or_eq_true, decide_eq_true_eq, beq_iff_eq, or_assoc]
      have hw0 := wl_drop (bs := s) (i := 0) (by omega)
      rw [List.drop_zero] at hw0
      have step : ((97 ≤ (s.getD k 0).toNat ∧ (s.getD k 0).toNat ≤ 122) ∨ (1 ≤ k ∧ ((48 ≤ (s.getD k 0).toNat ∧ (s.getD k 0).toNat ≤ 57) ∨ (s.getD k 0).toNat = 95))) →
          (∃ j : Nat, (k : Int) + 1 = j ∧ j ≤ s.length ∧ (1 ≤ j → j ≤ wl s)) ∧ ((s.length : Int) - (k + 1)).toNat < ((s.length : Int) - k).toNat := fun hp => by
        refine ⟨⟨k + 1, by omega, by omega, fun _ => ?_⟩, by omega⟩
        by_cases h0 : k = 0
        · subst h0
          rw [hw0, if_pos (by rw [hlet]; exact decide_eq_true (by omega))]
          omega
        · have := wl_next (bs := s) (i := 0) (k := k) (by rw [List.drop_zero]; exact hk2 (by omega)) (by omega) (by omega) (by rw [Nat.zero_add, hin]; omega)
          rw [List.drop_zero] at this
          omega
      have stop : ¬((97 ≤ (s.getD k 0).toNat ∧ (s.getD k 0).toNat ≤ 122) ∨ (1 ≤ k ∧ ((48 ≤ (s.getD k 0).toNat ∧ (s.getD k 0).toNat ≤ 57) ∨ (s.getD k 0).toNat = 95))) → false = nameR s := fun hp => by
        have hne : wl s ≠ s.length := by
          by_cases h0 : k = 0
          · subst h0
            rw [hw0, if_neg (by rw [hlet]; simp only [decide_eq_true_eq]; omega)]
            omega
          · have := wl_stop (bs := s) (i := 0) (k := k) (by rw [List.drop_zero]; exact hk2 (by omega)) (by omega) (fun _ => by
              rw [Nat.zero_add]
              cases hb : innerB (s.getD k 0) with
              | false => rfl
              | true => rw [hin] at hb; omega)
            rw [List.drop_zero] at this
            omega
        simp [nameR, hne]
      generalize (s.getD k 0).toNat = c at *
      repeat' (first | exact step (by omega) | exact stop (by omega) | refine And.intro (fun _ => ?_) (fun _ => ?_))
    · have hk3 : k = s.length := by omega
      have hp : 0 < s.length := List.length_pos_iff.2 hne
      have : wl s = s.length := by have := hk2 (by omega); omega
      simp [nameR, hne, hk, this]
      omega
end Go.Abs

namespace Go.Abs
open Go.Proofs

theorem contains_iff (t sub : List UInt8) : Lib.contains t sub = true ↔ ∃ i, i ≤ t.length ∧ Lib.occAt t sub i = true := by
  unfold Lib.contains
  rw [decide_eq_true_eq]
  constructor
  · intro h
    by_cases hex : ∃ i, i ≤ t.length ∧ Lib.occAt t sub i = true
    · exact hex
    · have := Lib.index_none (s := t) (sub := sub) fun j hj => by
        cases hb : Lib.occAt t sub j with
        | false => rfl
        | true => exact absurd ⟨j, hj, hb⟩ hex
      omega
  · intro h
    obtain ⟨n, ⟨hn, ho⟩, hmin⟩ := exists_least h
    have := Lib.index_first (s := t) (sub := sub) hn ho fun j hj => by
      cases hb : Lib.occAt t sub j with
      | false => rfl
      | true => have := hmin j ⟨by omega, hb⟩; omega
    omega

def txt (ws : List (List UInt8)) : List UInt8 := 32 :: ws.flatMap fun w => w ++ [32]
theorem txt_cons (w : List UInt8) (ws : List (List UInt8)) : txt (w :: ws) = 32 :: (w ++ txt ws) := by
  simp [txt]
theorem pre_word : ∀ {s w r q : List UInt8}, 32 ∉ s → 32 ∉ w → (s ++ 32 :: r = w ++ 32 :: q) → s = w
  | [], [], _, _, _, _, _ => rfl
  | [], c :: w, _, _, _, hw, h => by
    injection h with h1 _
    exact absurd (by rw [← h1]; exact List.mem_cons_self) hw
  | c :: s, [], _, _, hs, _, h => by
    injection h with h1 _
    exact absurd (by rw [h1]; exact List.mem_cons_self) hs
  | c :: s, d :: w, r, q, hs, hw, h => by
    simp only [List.cons_append, List.cons.injEq] at h
    rw [h.1, pre_word (fun hm => hs (List.mem_cons_of_mem _ hm)) (fun hm => hw (List.mem_cons_of_mem _ hm)) h.2]

theorem occ_txt {s : List UInt8} (hs : 32 ∉ s) (hne : s ≠ []) : ∀ (ws : List (List UInt8)), (∀ w ∈ ws, 32 ∉ w) → ((∃ i, ([32] ++ s ++ [32]) <+: (txt ws).drop i) ↔ s ∈ ws)
  | [], _ => by
    simp only [List.not_mem_nil, iff_false]
    rintro ⟨i, h⟩
    have := h.length_le
    have hp : 0 < s.length := List.length_pos_iff.2 hne
    simp [txt] at this
    omega
  | w :: ws, hw => by
    have ih := occ_txt hs hne ws fun x hx => hw x (List.mem_cons_of_mem _ hx)
    rw [txt_cons]
    constructor
    · rintro ⟨i, h⟩
      match i with
      | 0 =>
        obtain ⟨r, hr⟩ := h
        simp only [List.drop_zero, List.cons_append, List.nil_append, List.append_assoc, List.cons.injEq, true_and, txt] at hr
        rw [pre_word hs (hw w List.mem_cons_self) hr]
        exact List.mem_cons_self
      | i + 1 =>
        simp only [List.drop_succ_cons] at h
        by_cases hi : i < w.length
        · obtain ⟨r, hr⟩ := h
          rw [List.drop_append_of_le_length (by omega), List.drop_eq_getElem_cons hi] at hr
          simp only [List.cons_append, List.nil_append, List.cons.injEq] at hr
          exact absurd (hr.1 ▸ List.getElem_mem hi) (hw w List.mem_cons_self)
        · have e : (w ++ txt ws).drop i = (txt ws).drop (i - w.length) := by
            rw [List.drop_append, List.drop_eq_nil_of_le (by omega), List.nil_append]
          rw [e] at h
          exact List.mem_cons_of_mem _ (ih.1 ⟨_, h⟩)
    · intro h
      rcases List.mem_cons.1 h with rfl | h
      · exact ⟨0, ⟨txt ws |>.tail, by simp [txt]⟩⟩
      · obtain ⟨i, hi⟩ := ih.2 h
        refine ⟨i + w.length + 1, ?_⟩
        simp only [List.drop_succ_cons]
        rw [List.drop_append, List.drop_eq_nil_of_le (by omega), List.nil_append, show i + w.length - w.length = i by omega]
        exact hi

theorem contains_txt {s : List UInt8} (hs : 32 ∉ s) (hne : s ≠ []) (ws : List (List UInt8)) (hw : ∀ w ∈ ws, 32 ∉ w) : Lib.contains (txt ws) ([32] ++ s ++ [32]) = ws.contains s := by
  rw [Bool.eq_iff_iff, contains_iff, List.contains_iff_mem, ← occ_txt hs hne ws hw]
  constructor
  · rintro ⟨i, _, h⟩
    exact ⟨i, List.isPrefixOf_iff_prefix.1 h⟩
  · rintro ⟨i, h⟩
    refine ⟨i, ?_, List.isPrefixOf_iff_prefix.2 h⟩
    have := h.length_le
    simp only [List.length_append, List.length_drop, List.length_cons, List.length_nil] at this
    omega

theorem contains_one {s : List UInt8} : Lib.contains s [32] = true ↔ 32 ∈ s := by
  rw [contains_iff]
  constructor
  · rintro ⟨i, hi, h⟩
    have := List.isPrefixOf_iff_prefix.1 h
    obtain ⟨r, hr⟩ := this
    exact List.mem_of_mem_drop (i := i) (by rw [← hr]; simp)
  · intro h
    obtain ⟨i, hi, he⟩ := List.mem_iff_getElem.1 h
    refine ⟨i, by omega, List.isPrefixOf_iff_prefix.2 ⟨s.drop (i + 1), ?_⟩⟩
    rw [List.drop_eq_getElem_cons hi, he]
    rfl

theorem kw_no : ∀ w ∈ kwList, (32 : UInt8) ∉ w := by decide
theorem p16 (m : Int) (s : List UInt8) (hs : s.length ≤ 1000000) : PureOk PP (G8 m) XW (tbl lib8) (itbl []) nAn [] 16 [.str s] (.bool (kwR s), []) := by
  constructor
  rw [w16]
  have hc : ∀ t : List UInt8, tbl [(50, sIndexByte), (53, sIndexByteString), (32, sContains)] 32 [.str s, .str t] = some (.bool (Lib.contains s t), []) := fun t => by
    show sContains [.str s, .str t] = _
    simp only [sContains]
    rw [if_pos (by omega)]
  rw [hc]
  have ht : ∀ u, Lib.contains [32, 116, 97, 98, 108, 101, 32, 102, 101, 97, 116, 117, 114, 101, 32, 111, 102, 32, 107, 101, 101, 112, 32, 98, 111, 111, 108, 32, 116, 101, 120, 116, 32, 107, 101, 121, 32, 105, 110, 116, 32, 100, 101, 99, 32, 105, 102, 32, 116, 104, 101, 110, 32, 101, 108, 115, 101, 32, 100, 101, 102, 97, 117, 108, 116, 32, 111, 114, 32, 97, 110, 100, 32, 110, 111, 116, 32, 116, 114, 117, 101, 32, 102, 97, 108, 115, 101, 32, 110, 117, 108, 108, 32, 99, 111, 117, 110, 116, 32, 115, 117, 109, 32, 109, 101, 97, 110, 32, 109, 105, 110, 32, 109, 97, 120, 32, 102, 105, 114, 115, 116, 32, 108, 97, 115, 116, 32, 100, 105, 115, 116, 105, 110, 99, 116, 32, 113, 117, 97, 110, 116, 105, 108, 101, 32, 100, 101, 99, 97, 121, 32, 97, 108, 108, 32, 115, 108, 105, 100, 105, 110, 103, 32, 116, 117, 109, 98, 108, 105, 110, 103, 32, 115, 101, 115, 115, 105, 111, 110, 32, 119, 104, 101, 114, 101, 32] u = Lib.contains (txt kwList) u := fun u => rfl
  simp only [ht]
  simp only [callIs_iff, retIs_iff, Prod.mk.injEq, AV.bool.injEq, Option.some.injEq, and_true, exists_eq_left']
  refine ⟨fun h1 => ⟨fun h2 => ?_, fun h2 => ⟨by omega, by simp; omega, ?_⟩⟩, fun h1 => ?_⟩
  · have hm := contains_one.1 h2
    cases hk : kwR s with
    | false => rfl
    | true => exact absurd hm (kw_no s (List.contains_iff_mem.1 hk))
  · have hne : s ≠ [] := by simpa using h1
    have hm : 32 ∉ s := fun h => by rw [contains_one.2 h] at h2; cases h2
    rw [contains_txt hm hne kwList kw_no]
    exact ⟨fun h => h.symm, fun h => h.symm⟩
  · have : s = [] := by simpa using h1
    subst this
    rfl
end Go.Abs

namespace Go.Abs
open Go.Proofs
def e12_0 : AV × List (Nat × TypeId) := (AV.tup
      [AV.sl 3
          [AV.agg [AV.int IntKind.i64 1, AV.str [UInt8.ofNat (↑(UInt8.toNat 97) : Int).toNat], AV.int IntKind.i64 0],
            AV.agg [AV.int IntKind.i64 5, AV.str [UInt8.ofNat (↑(UInt8.toNat 60) : Int).toNat, UInt8.ofNat (↑(UInt8.toNat 61) : Int).toNat], AV.int IntKind.i64 1],
            AV.agg
              [AV.int IntKind.i64 3, AV.str [UInt8.ofNat (↑(UInt8.toNat 49) : Int).toNat, UInt8.ofNat (↑(UInt8.toNat 46) : Int).toNat, UInt8.ofNat (↑(UInt8.toNat 53) : Int).toNat],
                AV.int IntKind.i64 3],
            AV.agg [AV.int IntKind.i64 6, AV.str [], AV.int IntKind.i64 13]]
          (Own.tok 0),
        AV.sl 0 [] Own.nil, AV.int IntKind.i64 0],
    [([AV.agg [AV.int IntKind.i64 1, AV.str [UInt8.ofNat (↑(UInt8.toNat 97) : Int).toNat], AV.int IntKind.i64 0],
              AV.agg [AV.int IntKind.i64 5, AV.str [UInt8.ofNat (↑(UInt8.toNat 60) : Int).toNat, UInt8.ofNat (↑(UInt8.toNat 61) : Int).toNat], AV.int IntKind.i64 1],
              AV.agg
                [AV.int IntKind.i64 3, AV.str [UInt8.ofNat (↑(UInt8.toNat 49) : Int).toNat, UInt8.ofNat (↑(UInt8.toNat 46) : Int).toNat, UInt8.ofNat (↑(UInt8.toNat 53) : Int).toNat],
                  AV.int IntKind.i64 3]].length +
          [AV.agg [AV.int IntKind.i64 6, AV.str [], AV.int IntKind.i64 13]].length,
        38)])
set_option maxRecDepth 100000 in
theorem r12_0 (m : Int) : (evs PP (G8 m) (tbl lib8b) (fun _ => []) 200).1 12 [bytesA [97, 60, 61, 49, 46, 53, 32, 35, 32, 110, 111, 116, 101]] = some e12_0 := by kernel_rfl
def e12_1 : AV × List (Nat × TypeId) := (AV.tup
      [AV.sl 3
          [AV.agg [AV.int IntKind.i64 1, AV.str [UInt8.ofNat (↑(UInt8.toNat 120) : Int).toNat], AV.int IntKind.i64 0],
            AV.agg [AV.int IntKind.i64 5, AV.str [UInt8.ofNat (↑(UInt8.toNat 61) : Int).toNat, UInt8.ofNat (↑(UInt8.toNat 61) : Int).toNat], AV.int IntKind.i64 1],
            AV.agg [AV.int IntKind.i64 5, AV.str [UInt8.ofNat (↑(UInt8.toNat 45) : Int).toNat], AV.int IntKind.i64 3],
            AV.agg [AV.int IntKind.i64 2, AV.str [UInt8.ofNat (↑(UInt8.toNat 49) : Int).toNat], AV.int IntKind.i64 4],
            AV.agg [AV.int IntKind.i64 5, AV.str [UInt8.ofNat (↑(UInt8.toNat 59) : Int).toNat], AV.int IntKind.i64 5], AV.agg [AV.int IntKind.i64 6, AV.str [], AV.int IntKind.i64 6]]
          (Own.tok 0),
        AV.sl 0 [] Own.nil, AV.int IntKind.i64 0],
    [([AV.agg [AV.int IntKind.i64 1, AV.str [UInt8.ofNat (↑(UInt8.toNat 120) : Int).toNat], AV.int IntKind.i64 0],
              AV.agg [AV.int IntKind.i64 5, AV.str [UInt8.ofNat (↑(UInt8.toNat 61) : Int).toNat, UInt8.ofNat (↑(UInt8.toNat 61) : Int).toNat], AV.int IntKind.i64 1],
              AV.agg [AV.int IntKind.i64 5, AV.str [UInt8.ofNat (↑(UInt8.toNat 45) : Int).toNat], AV.int IntKind.i64 3],
              AV.agg [AV.int IntKind.i64 2, AV.str [UInt8.ofNat (↑(UInt8.toNat 49) : Int).toNat], AV.int IntKind.i64 4],
              AV.agg [AV.int IntKind.i64 5, AV.str [UInt8.ofNat (↑(UInt8.toNat 59) : Int).toNat], AV.int IntKind.i64 5]].length +
          [AV.agg [AV.int IntKind.i64 6, AV.str [], AV.int IntKind.i64 6]].length,
        38)])
set_option maxRecDepth 100000 in
theorem r12_1 (m : Int) : (evs PP (G8 m) (tbl lib8b) (fun _ => []) 200).1 12 [bytesA [120, 61, 61, 45, 49, 59]] = some e12_1 := by kernel_rfl
def e12_2 : AV × List (Nat × TypeId) := (AV.tup
      [AV.sl 3
          [AV.agg [AV.int IntKind.i64 2, AV.str [UInt8.ofNat (↑(UInt8.toNat 49) : Int).toNat, UInt8.ofNat (↑(UInt8.toNat 50) : Int).toNat], AV.int IntKind.i64 0],
            AV.agg [AV.int IntKind.i64 1, AV.str [UInt8.ofNat (↑(UInt8.toNat 97) : Int).toNat, UInt8.ofNat (↑(UInt8.toNat 98) : Int).toNat], AV.int IntKind.i64 2],
            AV.agg [AV.int IntKind.i64 2, AV.str [UInt8.ofNat (↑(UInt8.toNat 49) : Int).toNat], AV.int IntKind.i64 5], AV.agg [AV.int IntKind.i64 6, AV.str [], AV.int IntKind.i64 7]]
          (Own.tok 0),
        AV.sl 2 [AV.agg [AV.int IntKind.i64 6, AV.int IntKind.i64 80]] Own.no, AV.int IntKind.i64 0],
    [([AV.agg [AV.int IntKind.i64 2, AV.str [UInt8.ofNat (↑(UInt8.toNat 49) : Int).toNat, UInt8.ofNat (↑(UInt8.toNat 50) : Int).toNat], AV.int IntKind.i64 0],
              AV.agg [AV.int IntKind.i64 1, AV.str [UInt8.ofNat (↑(UInt8.toNat 97) : Int).toNat, UInt8.ofNat (↑(UInt8.toNat 98) : Int).toNat], AV.int IntKind.i64 2],
              AV.agg [AV.int IntKind.i64 2, AV.str [UInt8.ofNat (↑(UInt8.toNat 49) : Int).toNat], AV.int IntKind.i64 5]].length +
          [AV.agg [AV.int IntKind.i64 6, AV.str [], AV.int IntKind.i64 7]].length,
        38)])
set_option maxRecDepth 100000 in
theorem r12_2 (m : Int) : (evs PP (G8 m) (tbl lib8b) (fun _ => []) 200).1 12 [bytesA [49, 50, 97, 98, 32, 49, 46]] = some e12_2 := by kernel_rfl
def e12_3 : AV × List (Nat × TypeId) := (AV.tup
      [AV.sl 3
          [AV.agg [AV.int IntKind.i64 1, AV.str [UInt8.ofNat (↑(UInt8.toNat 97) : Int).toNat], AV.int IntKind.i64 0],
            AV.agg [AV.int IntKind.i64 1, AV.str [UInt8.ofNat (↑(UInt8.toNat 98) : Int).toNat], AV.int IntKind.i64 5], AV.agg [AV.int IntKind.i64 6, AV.str [], AV.int IntKind.i64 8]]
          (Own.tok 0),
        AV.sl 2 [AV.agg [AV.int IntKind.i64 2, AV.int IntKind.i64 80], AV.agg [AV.int IntKind.i64 7, AV.int IntKind.i64 80]] Own.no, AV.int IntKind.i64 0],
    [([AV.agg [AV.int IntKind.i64 1, AV.str [UInt8.ofNat (↑(UInt8.toNat 97) : Int).toNat], AV.int IntKind.i64 0],
              AV.agg [AV.int IntKind.i64 1, AV.str [UInt8.ofNat (↑(UInt8.toNat 98) : Int).toNat], AV.int IntKind.i64 5]].length +
          [AV.agg [AV.int IntKind.i64 6, AV.str [], AV.int IntKind.i64 8]].length,
        38)])
set_option maxRecDepth 100000 in
theorem r12_3 (m : Int) : (evs PP (G8 m) (tbl lib8b) (fun _ => []) 200).1 12 [bytesA [97, 32, 36, 36, 32, 98, 32, 36]] = some e12_3 := by kernel_rfl
def e12_4 : AV × List (Nat × TypeId) := (AV.tup
      [AV.sl 3
          [AV.agg
              [AV.int IntKind.i64 4, AV.str [UInt8.ofNat (↑(UInt8.toNat 97) : Int).toNat, UInt8.ofNat (↑(UInt8.toNat 32) : Int).toNat, UInt8.ofNat (↑(UInt8.toNat 98) : Int).toNat],
                AV.int IntKind.i64 0],
            AV.agg [AV.int IntKind.i64 1, AV.str [UInt8.ofNat (↑(UInt8.toNat 99) : Int).toNat], AV.int IntKind.i64 7], AV.agg [AV.int IntKind.i64 6, AV.str [], AV.int IntKind.i64 8]]
          (Own.tok 0),
        AV.sl 2 [AV.agg [AV.int IntKind.i64 6, AV.int IntKind.i64 80]] Own.no, AV.int IntKind.i64 0],
    [([AV.agg
                [AV.int IntKind.i64 4, AV.str [UInt8.ofNat (↑(UInt8.toNat 97) : Int).toNat, UInt8.ofNat (↑(UInt8.toNat 32) : Int).toNat, UInt8.ofNat (↑(UInt8.toNat 98) : Int).toNat],
                  AV.int IntKind.i64 0],
              AV.agg [AV.int IntKind.i64 1, AV.str [UInt8.ofNat (↑(UInt8.toNat 99) : Int).toNat], AV.int IntKind.i64 7]].length +
          [AV.agg [AV.int IntKind.i64 6, AV.str [], AV.int IntKind.i64 8]].length,
        38)])
set_option maxRecDepth 100000 in
theorem r12_4 (m : Int) : (evs PP (G8 m) (tbl lib8b) (fun _ => []) 200).1 12 [bytesA [34, 97, 32, 98, 34, 32, 34, 99]] = some e12_4 := by kernel_rfl
def e12_5 : AV × List (Nat × TypeId) := (AV.tup [AV.sl 3 [AV.agg [AV.int IntKind.i64 6, AV.str [], AV.int IntKind.i64 9]] (Own.tok 0), AV.sl 2 [AV.agg [AV.int IntKind.i64 0, AV.int IntKind.i64 3]] Own.no, AV.int IntKind.i64 0],
    [(0 + [AV.agg [AV.int IntKind.i64 6, AV.str [], AV.int IntKind.i64 9]].length, 38)])
set_option maxRecDepth 100000 in
theorem r12_5 (m : Int) : (evs PP (G8 m) (tbl lib8b) (fun _ => []) 200).1 12 [bytesA [48, 46, 49, 50, 51, 52, 53, 54, 55]] = some e12_5 := by kernel_rfl
def e12_6 : AV × List (Nat × TypeId) := (AV.tup
      [AV.sl 3 [AV.agg [AV.int IntKind.i64 1, AV.str [UInt8.ofNat (↑(UInt8.toNat 97) : Int).toNat], AV.int IntKind.i64 0], AV.agg [AV.int IntKind.i64 6, AV.str [], AV.int IntKind.i64 1]] (Own.tok 0),
        AV.sl 0 [] Own.nil, AV.int IntKind.i64 0],
    [([AV.agg [AV.int IntKind.i64 1, AV.str [UInt8.ofNat (↑(UInt8.toNat 97) : Int).toNat], AV.int IntKind.i64 0]].length + [AV.agg [AV.int IntKind.i64 6, AV.str [], AV.int IntKind.i64 1]].length,
        38)])
set_option maxRecDepth 100000 in
theorem r12_6 (m : Int) : (evs PP (G8 m) (tbl lib8b) (fun _ => []) 200).1 12 [bytesA [97]] = some e12_6 := by kernel_rfl
def e12_7 : AV × List (Nat × TypeId) := (AV.tup
      [AV.sl 3
          [AV.agg
              [AV.int IntKind.i64 4, AV.str [UInt8.ofNat (↑(UInt8.toNat 98) : Int).toNat, UInt8.ofNat (↑(UInt8.toNat 32) : Int).toNat, UInt8.ofNat (↑(UInt8.toNat 99) : Int).toNat],
                AV.int IntKind.i64 0],
            AV.agg [AV.int IntKind.i64 6, AV.str [], AV.int IntKind.i64 5]]
          (Own.tok 0),
        AV.sl 0 [] Own.nil, AV.int IntKind.i64 0],
    [([AV.agg
                [AV.int IntKind.i64 4, AV.str [UInt8.ofNat (↑(UInt8.toNat 98) : Int).toNat, UInt8.ofNat (↑(UInt8.toNat 32) : Int).toNat, UInt8.ofNat (↑(UInt8.toNat 99) : Int).toNat],
                  AV.int IntKind.i64 0]].length +
          [AV.agg [AV.int IntKind.i64 6, AV.str [], AV.int IntKind.i64 5]].length,
        38)])
set_option maxRecDepth 100000 in
theorem r12_7 (m : Int) : (evs PP (G8 m) (tbl lib8b) (fun _ => []) 200).1 12 [bytesA [34, 98, 32, 99, 34]] = some e12_7 := by kernel_rfl
def e12_8 : AV × List (Nat × TypeId) := (AV.tup [AV.sl 3 [AV.agg [AV.int IntKind.i64 6, AV.str [], AV.int IntKind.i64 1]] (Own.tok 0), AV.sl 2 [AV.agg [AV.int IntKind.i64 0, AV.int IntKind.i64 80]] Own.no, AV.int IntKind.i64 0],
    [(0 + [AV.agg [AV.int IntKind.i64 6, AV.str [], AV.int IntKind.i64 1]].length, 38)])
set_option maxRecDepth 100000 in
theorem r12_8 (m : Int) : (evs PP (G8 m) (tbl lib8b) (fun _ => []) 200).1 12 [bytesA [65]] = some e12_8 := by kernel_rfl
def tab12 : List (List UInt8 × (AV × List (Nat × TypeId))) := [([97, 60, 61, 49, 46, 53, 32, 35, 32, 110, 111, 116, 101], e12_0), ([120, 61, 61, 45, 49, 59], e12_1), ([49, 50, 97, 98, 32, 49, 46], e12_2), ([97, 32, 36, 36, 32, 98, 32, 36], e12_3), ([34, 97, 32, 98, 34, 32, 34, 99], e12_4), ([48, 46, 49, 50, 51, 52, 53, 54, 55], e12_5), ([97], e12_6), ([34, 98, 32, 99, 34], e12_7), ([65], e12_8)]
theorem run12 (m : Int) : ∀ p ∈ tab12, (evs PP (G8 m) (tbl lib8b) (fun _ => []) 200).1 12 [bytesA p.1] = some p.2 := by
  simp only [tab12, List.forall_mem_cons]
  exact ⟨r12_0 m, r12_1 m, r12_2 m, r12_3 m, r12_4 m, r12_5 m, r12_6 m, r12_7 m, r12_8 m, fun p h => absurd h (by simp)⟩
end Go.Abs

namespace Go.Abs
open Go.Proofs
def s12c : Spec := fun args => match args with
  | [.sl sz es .no] => if sz = 1 then match unBytes es with
    | some bs => tab12.lookup bs
    | none => none else none
  | _ => none
theorem lookup_mem {α β : Type} [BEq α] [LawfulBEq α] : ∀ {l : List (α × β)} {a : α} {b : β}, l.lookup a = some b → (a, b) ∈ l
  | [], a, b, h => by simp at h
  | (x, y) :: l, a, b, h => by
    rw [List.lookup_cons] at h
    split at h
    · rename_i e
      injection h with h
      have := eq_of_beq e
      subst this; subst h
      exact List.mem_cons_self
    · exact List.mem_cons_of_mem _ (lookup_mem h)
set_option maxRecDepth 100000 in
theorem o12c (m : Int) : SpecOk PP (G8 m) 12 s12c := spec_run mixed8 (lib8b_ok m) fun args r h => by
  unfold s12c at h
  split at h
  · rename_i sz es
    split at h
    · rename_i hs
      subst hs
      split at h
      · rename_i bs hb
        obtain rfl := unBytes_some hb
        exact ⟨200, run12 m (bs, r) (lookup_mem h)⟩
      · cases h
    · cases h
  · cases h
def lib8c : List (FuncId × Spec) := (12, s12c) :: lib8b
theorem lib8c_ok (m : Int) : CalleeOk PP (G8 m) (tbl lib8c) := tbl_cons (o12c m) (lib8b_ok m)
set_option maxRecDepth 100000 in
theorem run11 (m : Int) : (evs PP (G8 m) (tbl lib8c) (fun _ => []) 100).1 11 [] = some (.bool true, []) := by kernel_rfl
def s11 : Spec := fun args => match args with
  | [] => some (.bool true, [])
  | _ => none
theorem o11 (m : Int) : SpecOk PP (G8 m) 11 s11 := spec_run mixed8 (lib8c_ok m) fun args r h => by
  unfold s11 at h
  split at h
  · injection h with h; subst h; exact ⟨100, run11 m⟩
  · cases h
end Go.Abs

namespace Go.Abs
open Go.Proofs

theorem p49 (m n : Int) : PureOk PP (G8 m) X1 (tbl []) (itbl []) ⟨nA, nA⟩ [] 49 [.int .u8 n] (.bool (decide (97 ≤ n ∧ n ≤ 122)), []) := by
  constructor
  rw [w49]
  simp only [retIs_iff, Prod.mk.injEq, AV.bool.injEq, and_true, decide_eq_true_eq, decide_eq_false_iff_not]
  refine ⟨fun h1 => ⟨fun h2 => (decide_eq_true (by omega)).symm, fun h2 => (decide_eq_false (by omega)).symm⟩, fun h1 => (decide_eq_false (by omega)).symm⟩
theorem p44 (m n : Int) : PureOk PP (G8 m) X1 (tbl []) (itbl []) ⟨nA, nA⟩ [] 44 [.int .u8 n] (.bool (decide (48 ≤ n ∧ n ≤ 57)), []) := by
  constructor
  rw [w44]
  simp only [retIs_iff, Prod.mk.injEq, AV.bool.injEq, and_true, decide_eq_true_eq, decide_eq_false_iff_not]
  refine ⟨fun h1 => ⟨fun h2 => (decide_eq_true (by omega)).symm, fun h2 => (decide_eq_false (by omega)).symm⟩, fun h1 => (decide_eq_false (by omega)).symm⟩

theorem o49 (m : Int) : SpecOk PP (G8 m) 49 s49 := spec_of (X := X1) (m := []) mixed8 tbl_nil itbl_nil fun args r h => by
  unfold s49 at h
  split at h
  · injection h with h; subst h; exact ⟨⟨nA, nA⟩, p49 m _⟩
  · cases h
theorem o44 (m : Int) : SpecOk PP (G8 m) 44 s44 := spec_of (X := X1) (m := []) mixed8 tbl_nil itbl_nil fun args r h => by
  unfold s44 at h
  split at h
  · injection h with h; subst h; exact ⟨⟨nA, nA⟩, p44 m _⟩
  · cases h
theorem o33 (m : Int) : SpecOk PP (G8 m) 33 s33' := spec_of (X := X1) (m := []) mixed8 (tbl_cons (o49 m) (tbl_cons (o44 m) tbl_nil)) itbl_nil fun args r h => by
  unfold s33' at h
  split at h
  · rename_i sz es n
    split at h
    · rename_i hsz
      subst hsz
      split at h
      · rename_i bs hb
        obtain rfl := unBytes_some hb
        split at h
        · rename_i hc
          injection h with h
          subst h
          have := p33 m bs n.toNat hc.2.1 hc.2.2
          rw [Int.toNat_of_nonneg hc.1] at this
          exact ⟨a33 bs n.toNat, this⟩
        · cases h
      · cases h
    · cases h
  · cases h
theorem o17 (m : Int) : SpecOk PP (G8 m) 17 s17 := spec_of (X := XW) (m := []) mixed8 tbl_nil itbl_nil fun args r h => by
  unfold s17 at h
  split at h
  · injection h with h; subst h; exact ⟨nAn, p17 m _⟩
  · cases h
theorem o16 (m : Int) : SpecOk PP (G8 m) 16 s16 := spec_of (X := XW) (m := []) mixed8 (lib8_ok m) itbl_nil fun args r h => by
  unfold s16 at h
  split at h
  · split at h
    · rename_i hl
      injection h with h; subst h; exact ⟨nAn, p16 m _ hl⟩
    · cases h
  · cases h
theorem o18 (m : Int) : SpecOk PP (G8 m) 18 s18 := spec_of (X := XW) (m := []) mixed8 (tbl_cons (o16 m) tbl_nil) itbl_nil fun args r h => by
  unfold s18 at h
  split at h
  · split at h
    · rename_i hl
      injection h with h; subst h; exact ⟨a18 _, p18 m _ hl⟩
    · cases h
  · cases h
theorem o19 (m : Int) : SpecOk PP (G8 m) 19 s18 := spec_of (X := XW) (m := []) mixed8 (tbl_cons (o17 m) (tbl_cons (o33 m) tbl_nil)) itbl_nil fun args r h => by
  unfold s18 at h
  split at h
  · split at h
    · injection h with h; subst h; exact ⟨nAn, p19 m _⟩
    · cases h
  · cases h
def s4 : Spec := fun args => match args with
  | [.str _] => some (.bool true, [])
  | _ => none
theorem o4 (m : Int) : SpecOk PP (G8 m) 4 s4 := spec_of (X := XW) (m := []) mixed8 (tbl_cons (o11 m) (tbl_cons (o16 m) (tbl_cons (o17 m) (tbl_cons (o18 m) (tbl_cons (o19 m) tbl_nil))))) itbl_nil fun args r h => by
  unfold s4 at h
  split at h
  · injection h with h; subst h; exact ⟨nAn, p4 m _ s11 rfl⟩
  · cases h
end Go.Abs

namespace Go.Abs
open Go.Proofs L8

theorem tk_at {P : Program} {t : TypeId} (ha : aggA P t = some false) {s : Nat} (hs : sizeA P t = some s) {l : List TI} {i : Nat} (h : i < l.length) :
    takeAt P t (tksL l) i 0 = some (.int .i64 l[i].kind) ∧ takeAt P t (tksL l) i 1 = some (.str l[i].text) ∧ takeAt P t (tksL l) i 2 = some (.int .i64 l[i].at_) := by
  have he : (tksL l)[i]? = some (tiA l[i]) := by simp [h]
  simp only [takeAt, he, ha, hs, takeA, tiA, AV.cells]
  exact ⟨rfl, rfl, rfl⟩
theorem pb_at {P : Program} {t : TypeId} (ha : aggA P t = some true) (hs : sizeA P t = some 2) {l : List PI} {i : Nat} (h : i < l.length) :
    takeAt P t (pbsL l) i 0 = some (piA l[i]) := by
  have he : (pbsL l)[i]? = some (piA l[i]) := by simp [h]
  simp only [takeAt, he, ha, hs, takeA, piA, AV.cells]
  rfl
theorem agg3 : aggA PP 3 = some false := by kernel_rfl
theorem size3 : sizeA PP 3 = some 1 := by kernel_rfl
theorem agg9 : aggA PP 9 = some false := by kernel_rfl
theorem size9 : sizeA PP 9 = some 1 := by kernel_rfl
theorem agg40 : aggA PP 40 = some true := by kernel_rfl
theorem size40 : sizeA PP 40 = some 2 := by kernel_rfl
theorem tksL_length {l : List TI} : (tksL l).length = l.length := List.length_map ..
theorem pbsL_length {l : List PI} : (pbsL l).length = l.length := List.length_map ..
theorem all2B_len {α : Type} {p : α → α → Bool} : ∀ {l k : List α}, all2B p l k = true → l.length = k.length
  | [], [], _ => rfl
  | [], b :: k, h => by simp [all2B] at h
  | a :: l, [], h => by simp [all2B] at h
  | a :: l, b :: k, h => by
    simp only [all2B, Bool.and_eq_true] at h
    simp [all2B_len h.2]
theorem all2B_succ {α : Type} {p : α → α → Bool} : ∀ {l k : List α} {i : Nat} (h1 : i < l.length) (h2 : i < k.length), all2B p (l.take (i + 1)) (k.take (i + 1)) = (all2B p (l.take i) (k.take i) && p l[i] k[i])
  | a :: l, b :: k, 0, h1, h2 => by simp [all2B]
  | a :: l, b :: k, i + 1, h1, h2 => by
    have ih := all2B_succ (p := p) (l := l) (k := k) (i := i) (by simpa using h1) (by simpa using h2)
    simp only [List.take_succ_cons, all2B, List.getElem_cons_succ]
    rw [ih, Bool.and_assoc]
theorem all2B_at {α : Type} {p : α → α → Bool} : ∀ {l k : List α} {i : Nat} (h1 : i < l.length) (h2 : i < k.length), all2B p l k = true → p l[i] k[i] = true
  | a :: l, b :: k, 0, h1, h2, h => by simp only [all2B, Bool.and_eq_true] at h; exact h.1
  | a :: l, b :: k, i + 1, h1, h2, h => by
    simp only [all2B, Bool.and_eq_true] at h
    exact all2B_at (l := l) (k := k) (i := i) (by simpa using h1) (by simpa using h2) h.2
theorem all2B_no {α : Type} {p : α → α → Bool} {l k : List α} {i : Nat} (h1 : i < l.length) (h2 : i < k.length) (h : p l[i] k[i] = false) : all2B p l k = false := by
  cases hx : all2B p l k with
  | false => rfl
  | true => rw [all2B_at h1 h2 hx] at h; cases h
theorem all2B_refl {α : Type} {p : α → α → Bool} : ∀ {l : List α}, (∀ a ∈ l, p a a = true) → all2B p l l = true
  | [], _ => rfl
  | a :: l, h => by
    simp only [all2B, Bool.and_eq_true]
    exact ⟨h a List.mem_cons_self, all2B_refl fun b hb => h b (List.mem_cons_of_mem _ hb)⟩
theorem p14 (m : Int) (l k : List TI) (far : Bool) (more : Int) (hl : l.length ≤ 1000000) (hk : k.length ≤ 1000000) : PureOk PP (G8 m) XS (tbl []) (itbl []) (a14 l k far more) [] 14 [.sl 3 (tksL l) .no, .sl 3 (tksL k) .no, .bool far, .int .i64 more] (.bool (all2B (sameT far more) l k), []) := by
  constructor
  rw [w14]
  simp only [callIs_iff, valsAre_iff, stIs_iff, retIs_iff, tksL_length, Option.some.injEq, Prod.mk.injEq, AV.int.injEq, AV.bool.injEq, AV.str.injEq, AV.sl.injEq, List.cons.injEq, and_true, true_and, and_self, decide_eq_true_eq, decide_eq_false_iff_not, beq_iff_eq, beq_eq_false_iff_ne, bne_iff_ne, bne_eq_false_iff_eq, Bool.not_eq_true', Bool.not_eq_false', Int.toNat_natCast, ne_eq]
  refine ⟨fun h => ?_, fun h => ⟨⟨0, rfl, Nat.zero_le _, by simp [all2B]⟩, fun x hx => ⟨fun hf => ⟨fun hlt => ?_, fun hge => ?_⟩, fun hf => ⟨fun hlt => ?_, fun hge => ?_⟩⟩⟩⟩
  · cases hx : all2B (sameT far more) l k with
    | false => rfl
    | true => have := all2B_len hx; omega
  · have h1 : x < l.length := by omega
    have h2 : x < k.length := by omega
    obtain ⟨k1, k2, k3⟩ := tk_at agg3 size3 h1
    obtain ⟨q1, q2, q3⟩ := tk_at agg3 size3 h2
    obtain ⟨_, t2, _⟩ := tk_at agg9 size9 h1
    obtain ⟨_, u2, _⟩ := tk_at agg9 size9 h2
    have no : sameT far more l[x] k[x] = false → all2B (sameT far more) l k = false := all2B_no h1 h2
    subst hf
    refine ⟨by omega, _, k1, by omega, _, q1, fun hc => (no (by simp [sameT, hc])).symm, fun hc => ⟨by omega, _, t2, by omega, _, u2, fun ht => (no (by simp [sameT, ht])).symm, fun ht => ⟨by omega, _, k3, by omega, _, q3, fun ha => (no (by simp [sameT, ha])).symm, fun ha => ⟨x + 1, by rw [wrap64_in (by omega) (by omega)]; exact ⟨rfl, rfl⟩, ⟨by omega, ?_⟩, by omega⟩⟩⟩⟩
    rw [all2B_succ h1 h2, hx.2]
    simp [sameT, hc, ht, ha]
  · have h1 : x = l.length := by omega
    have h2 : x = k.length := by omega
    have := hx.2
    rw [h1, List.take_length, show l.length = k.length by omega, List.take_length] at this
    exact this.symm
  · have h1 : x < l.length := by omega
    have h2 : x < k.length := by omega
    obtain ⟨k1, k2, k3⟩ := tk_at agg3 size3 h1
    obtain ⟨q1, q2, q3⟩ := tk_at agg3 size3 h2
    obtain ⟨_, t2, _⟩ := tk_at agg9 size9 h1
    obtain ⟨_, u2, _⟩ := tk_at agg9 size9 h2
    have no : sameT far more l[x] k[x] = false → all2B (sameT far more) l k = false := all2B_no h1 h2
    subst hf
    refine ⟨by omega, _, k1, by omega, _, q1, fun hc => (no (by simp [sameT, hc])).symm, fun hc => ⟨by omega, _, t2, by omega, _, u2, fun ht => (no (by simp [sameT, ht])).symm, fun ht => ⟨x + 1, by rw [wrap64_in (by omega) (by omega)]; exact ⟨rfl, rfl⟩, ⟨by omega, ?_⟩, by omega⟩⟩⟩
    rw [all2B_succ h1 h2, hx.2]
    simp [sameT, hc, ht]
  · have h1 : x = l.length := by omega
    have h2 : x = k.length := by omega
    have := hx.2
    rw [h1, List.take_length, show l.length = k.length by omega, List.take_length] at this
    exact this.symm
theorem p15 (m : Int) (l k : List PI) (hl : l.length ≤ 1000000) (hk : k.length ≤ 1000000) : PureOk PP (G8 m) XS (tbl []) (itbl []) (a15 l k) [] 15 [.sl 2 (pbsL l) .no, .sl 2 (pbsL k) .no] (.bool (all2B (fun a b => decide (a = b)) l k), []) := by
  constructor
  rw [w15]
  simp only [callIs_iff, valsAre_iff, stIs_iff, retIs_iff, pbsL_length, Option.some.injEq, Prod.mk.injEq, AV.int.injEq, AV.bool.injEq, AV.str.injEq, AV.sl.injEq, AV.agg.injEq, List.cons.injEq, and_true, true_and, and_self, decide_eq_true_eq, decide_eq_false_iff_not, bne_iff_ne, bne_eq_false_iff_eq, Int.toNat_natCast, ne_eq, Bool.and_true]
  refine ⟨fun h => ?_, fun h => ⟨⟨0, rfl, Nat.zero_le _, rfl⟩, fun x hx => ⟨fun hlt => ?_, fun hge => ?_⟩⟩⟩
  · cases hx : all2B (fun a b => decide (a = b)) l k with
    | false => rfl
    | true => have := all2B_len hx; omega
  · have h1 : x < l.length := by omega
    have h2 : x < k.length := by omega
    refine ⟨by omega, _, _, pb_at agg40 size40 h1, by omega, _, _, pb_at agg40 size40 h2, fun hc => ?_, fun hc => ?_⟩
    · refine (all2B_no h1 h2 ?_).symm
      rw [decide_eq_false_iff_not]
      intro e
      rw [e] at hc
      simp at hc
    · refine ⟨x + 1, by rw [wrap64_in (by omega) (by omega)]; rfl, ⟨by omega, ?_⟩, by omega⟩
      rw [List.take_succ_eq_append_getElem h1, List.take_succ_eq_append_getElem h2, hx.2]
      have e : l[x] = k[x] := by
        simp only [Bool.not_eq_false', Bool.and_eq_true, beq_iff_eq] at hc
        cases hl : l[x] with | mk a b =>
        cases hk : k[x] with | mk a' b' =>
        rw [hl, hk] at hc
        simp only at hc
        rw [hc.1, hc.2]
      rw [e]
  · have h1 : x = l.length := by omega
    have h2 : x = k.length := by omega
    have := hx.2
    rw [h1, List.take_length, show l.length = k.length by omega, List.take_length] at this
    rw [this]
    exact (all2B_refl fun a _ => by simp).symm
theorem o14 (m : Int) : SpecOk PP (G8 m) 14 s14 := spec_of (X := XS) (m := []) mixed8 tbl_nil itbl_nil fun args r h => by
  unfold s14 at h
  split at h
  · split at h
    · rename_i hsz
      obtain ⟨rfl, rfl⟩ := hsz
      split at h
      · rename_i l k h1 h2
        obtain rfl := unL_some (g := tiA) (fun _ _ => unTI_some) h1
        obtain rfl := unL_some (g := tiA) (fun _ _ => unTI_some) h2
        split at h
        · rename_i hc
          injection h with h; subst h; exact ⟨_, p14 m l k _ _ hc.1 hc.2⟩
        · cases h
      · cases h
    · cases h
  · cases h
theorem o15 (m : Int) : SpecOk PP (G8 m) 15 s15 := spec_of (X := XS) (m := []) mixed8 tbl_nil itbl_nil fun args r h => by
  unfold s15 at h
  split at h
  · split at h
    · rename_i hsz
      obtain ⟨rfl, rfl⟩ := hsz
      split at h
      · rename_i l k h1 h2
        obtain rfl := unL_some (g := piA) (fun _ _ => unPI_some) h1
        obtain rfl := unL_some (g := piA) (fun _ _ => unPI_some) h2
        split at h
        · rename_i hc
          injection h with h; subst h; exact ⟨_, p15 m l k hc.1 hc.2⟩
        · cases h
      · cases h
    · cases h
  · cases h
end Go.Abs

namespace Go.Abs
open Go.Proofs L8

theorem scan_ind {P : List UInt8 → Nat → Bool → Prop} (h0 : ∀ a adj, P [] a adj)
    (h1 : ∀ l a adj, l ≠ [] → P (l.drop (piece l).2.1) (a + (piece l).2.1) (adjOf l) → P l a adj) (l : List UInt8) (a : Nat) (adj : Bool) : P l a adj := by
  have key : ∀ n (l : List UInt8) a adj, l.length = n → P l a adj := by
    intro n
    induction n using Nat.strongRecOn with
    | _ n ih =>
      intro l a adj hl
      cases l with
      | nil => exact h0 a adj
      | cons c t =>
        have hp := piece_pos c t
        exact h1 (c :: t) a adj (by simp) (ih _ (by rw [← hl, List.length_drop]; simp only [List.length_cons]; omega) _ _ _ rfl)
  exact key _ l a adj rfl
theorem tkOf_at {l : List UInt8} {a : Nat} {t : Tk} (h : t ∈ tkOf l a) : t.at_ = a := by
  unfold tkOf at h
  split at h
  · simp at h; subst h; rfl
  · simp at h
theorem pbOf_at {l : List UInt8} {a : Nat} {adj : Bool} {t : Pb} (h : t ∈ pbOf l a adj) : t.at_ = a := by
  unfold pbOf at h
  split at h
  · split at h
    · simp at h
    · simp at h; subst h; rfl
  · split at h
    · simp at h
    · simp at h; subst h; rfl
theorem tkOf_len (l : List UInt8) (a : Nat) : (tkOf l a).length ≤ 1 := by unfold tkOf; split <;> simp
theorem pbOf_len (l : List UInt8) (a : Nat) (adj : Bool) : (pbOf l a adj).length ≤ 1 := by unfold pbOf; repeat' split
                                                                                           all_goals simp
structure ScanB (l : List UInt8) (a : Nat) (adj : Bool) : Prop where
  tk : ∀ t ∈ (scan l a adj).1, a ≤ t.at_ ∧ t.at_ < a + l.length
  pb : ∀ t ∈ (scan l a adj).2, a ≤ t.at_ ∧ t.at_ < a + l.length
  ltk : (scan l a adj).1.length ≤ l.length
  lpb : (scan l a adj).2.length ≤ l.length
theorem scanB (l : List UInt8) (a : Nat) (adj : Bool) : ScanB l a adj := by
  refine scan_ind (P := ScanB) (fun a adj => ?_) (fun l a adj hne ih => ?_) l a adj
  · exact ⟨by simp [scan_nil], by simp [scan_nil], by simp [scan_nil], by simp [scan_nil]⟩
  · obtain ⟨i1, i2, i3, i4⟩ := ih
    have hp : 1 ≤ (piece l).2.1 := by cases l with
      | nil => exact absurd rfl hne
      | cons c t => exact piece_pos c t
    have hle := piece_le l
    have h1 := tkOf_len l a
    have h2 := pbOf_len l a adj
    have hl : 0 < l.length := List.length_pos_iff.2 hne
    simp only [List.length_drop] at i1 i2 i3 i4
    refine ⟨fun t ht => ?_, fun t ht => ?_, ?_, ?_⟩
    · rw [scan_step hne] at ht
      rcases List.mem_append.1 ht with ht | ht
      · rw [tkOf_at ht]; omega
      · have := i1 t ht; omega
    · rw [scan_step hne] at ht
      rcases List.mem_append.1 ht with ht | ht
      · rw [pbOf_at ht]; omega
      · have := i2 t ht; omega
    · rw [scan_step hne, List.length_append]; omega
    · rw [scan_step hne, List.length_append]; omega
abbrev toksI (bs : List UInt8) : List TI := (toksL bs).map toTI
abbrev probsI (bs : List UInt8) : List PI := (probsL bs).map toPI
theorem toks_A (bs : List UInt8) : (toksL bs).map tokA = tksL (toksI bs) := by simp [tksL, toksI, tokA_ti, Function.comp_def]
theorem probs_A (bs : List UInt8) : (probsL bs).map pbA = pbsL (probsI bs) := by simp [pbsL, probsI, pbA_pi, Function.comp_def]
theorem toksI_len (bs : List UInt8) : (toksI bs).length ≤ bs.length + 1 := by
  have := (scanB bs 0 false).ltk
  simp [toksI, toksL]; omega
theorem probsI_len (bs : List UInt8) : (probsI bs).length ≤ 32 := by
  simp [probsI, probsL]; omega
theorem toksI_at {bs : List UInt8} {t : TI} (h : t ∈ toksI bs) : 0 ≤ t.at_ ∧ t.at_ ≤ bs.length := by
  simp only [toksI, toksL, List.map_append, List.mem_append, List.mem_map] at h
  rcases h with ⟨u, hu, rfl⟩ | ⟨u, hu, rfl⟩
  · have := (scanB bs 0 false).tk u hu
    simp only [toTI]; omega
  · simp at hu; subst hu; simp [toTI]
theorem same_refl {bs : List UInt8} (hl : bs.length ≤ 1000000) : all2B (sameT true 0) (toksI bs) (toksI bs) = true := all2B_refl fun t ht => by
  have := toksI_at ht
  simp only [sameT]
  rw [wrap64_in (by omega) (by omega)]
  simp
/-- what Tokens returns -/
theorem s12_ok {bs : List UInt8} (h : bs.length ≤ 16384) : s12 [bytesA bs] = some (.tup [.sl 3 (tksL (toksI bs)) .no, .sl 2 (pbsL (probsI bs)) .no, .int .i64 0], []) := by
  simp only [s12, onBytes, unBytes_mk, if_true, r12, if_pos h, tkA, badA, toks_A, probs_A]
theorem s12_no {bs : List UInt8} (h : ¬ bs.length ≤ 16384) : s12 [bytesA bs] = some (.tup [.sl 3 [] .no, .sl 2 [] .no, .int .i64 2], []) := by
  simp only [s12, onBytes, unBytes_mk, if_true, r12, if_neg h]
theorem s14_ok {l k : List TI} {far : Bool} {more : Int} (h1 : l.length ≤ 1000000) (h2 : k.length ≤ 1000000) : s14 [.sl 3 (tksL l) .no, .sl 3 (tksL k) .no, .bool far, .int .i64 more] = some (.bool (all2B (sameT far more) l k), []) := by
  simp only [s14, and_self, if_true, unTIs, if_pos (And.intro h1 h2)]
theorem s15_ok {l k : List PI} (h1 : l.length ≤ 1000000) (h2 : k.length ≤ 1000000) : s15 [.sl 2 (pbsL l) .no, .sl 2 (pbsL k) .no] = some (.bool (all2B (fun a b => decide (a = b)) l k), []) := by
  simp only [s15, and_self, if_true, unPIs, if_pos (And.intro h1 h2)]
theorem p3 (m : Int) (bs : List UInt8) : PureOk PP (G8 m) XS (tbl [(11, s11), (12, s12), (13, s12), (14, s14), (15, s15)]) (itbl []) nAn [] 3 [bytesA bs] (.bool true, []) := by
  constructor
  rw [w3]
  have t11 : tbl [(11, s11), (12, s12), (13, s12), (14, s14), (15, s15)] 11 [] = some (.bool true, []) := rfl
  have t12 : ∀ x, tbl [(11, s11), (12, s12), (13, s12), (14, s14), (15, s15)] 12 x = s12 x := fun _ => rfl
  have t13 : ∀ x, tbl [(11, s11), (12, s12), (13, s12), (14, s14), (15, s15)] 13 x = s12 x := fun _ => rfl
  have t14 : ∀ x, tbl [(11, s11), (12, s12), (13, s12), (14, s14), (15, s15)] 14 x = s14 x := fun _ => rfl
  have t15 : ∀ x, tbl [(11, s11), (12, s12), (13, s12), (14, s14), (15, s15)] 15 x = s15 x := fun _ => rfl
  rw [t11, t12, t13]
  simp only [t14, t15, callIs_iff, retIs_iff, bytesL_length, Option.some.injEq, Prod.mk.injEq, AV.bool.injEq, and_true, decide_eq_true_eq, decide_eq_false_iff_not]
  refine ⟨true, rfl, fun _ => ⟨fun _ => trivial, fun hl => ?_⟩, fun h => nomatch h⟩
  by_cases hs : bs.length ≤ 16384
  · have hT := toksI_len bs
    have hP := probsI_len bs
    refine ⟨_, _, _, s12_ok hs, _, _, _, s12_ok hs, fun _ => ⟨_, s14_ok (by omega) (by omega), fun _ => ⟨_, s15_ok (by omega) (by omega), fun _ => trivial, fun h => ?_⟩, fun h => ?_⟩, fun h => by simp at h⟩
    · rw [all2B_refl fun a _ => by simp] at h; cases h
    · rw [same_refl (by omega)] at h; cases h
  · refine ⟨_, _, _, s12_no hs, _, _, _, s12_no hs, fun _ => ⟨_, s14_ok (l := []) (k := []) (by simp) (by simp), fun _ => ⟨_, s15_ok (l := []) (k := []) (by simp) (by simp), fun _ => trivial, fun h => ?_⟩, fun h => ?_⟩, fun h => by simp at h⟩
    · simp [all2B] at h
    · simp [all2B] at h
def s3 : Spec := fun args => match args with
  | [.sl sz es .no] => if sz = 1 then onBytes es fun _ => some (.bool true, []) else none
  | _ => none
theorem o3 (m : Int) : SpecOk PP (G8 m) 3 s3 := spec_of (X := XS) (m := []) mixed8 (tbl_cons (o11 m) (tbl_cons (o12' m) (tbl_cons (o13' m) (tbl_cons (o14 m) (tbl_cons (o15 m) tbl_nil))))) itbl_nil fun args r h => by
  unfold s3 at h
  split at h
  · split at h
    · rename_i hsz
      subst hsz
      unfold onBytes at h
      split at h
      · rename_i bs hb
        obtain rfl := unBytes_some hb
        injection h with h; subst h; exact ⟨nAn, p3 m bs⟩
      · cases h
    · cases h
  · cases h
theorem s3_true (l : List UInt8) : s3 [bytesA l] = some (.bool true, []) := by simp only [s3, if_true, onBytes, unBytes_mk]
end Go.Abs

namespace Go.Abs
open Go.Proofs Go.Proofs.YtooobfhjklcnjaaDoor

abbrev laid8 : List (String × DataW Unit) := Rows.lexerTokensRow.laid
theorem gTens : PP.globalNamed "asof/decimal.tens" = some 1 := by kernel_rfl
theorem gFirst : PP.globalNamed "unicode/utf8.first" = some 2 := by kernel_rfl
theorem gAcc : PP.globalNamed "unicode/utf8.acceptRanges" = some 3 := by kernel_rfl
theorem gRange : PP.globalNamed "strconv.ErrRange" = some 5 := by kernel_rfl
def tensL : List Int := [1, 10, 100, 1000, 10000, 100000, 1000000]
section
variable {W : World}
theorem tens_cells (h : laidMet PP laid8 W) : ∀ i, i < 7 → W.cell? ⟨1, i, none⟩ = some (.int .i64 (10 ^ i)) := by
  obtain ⟨g, t, cs, fuel, p, h1, h2, h3, h4⟩ := Lib.laidMet.reads h (n := "asof/decimal.tens") (d := Rows.laid_asof_decimal_tens) (by simp [laid8, Rows.lexerTokensRow])
  obtain rfl := Option.some.inj (gTens.symm.trans h1)
  have ty : ∃ t0 e, (PP.globals[1]?).map (·.type) = some t0 ∧ PP.underlying t0 = some (.array 7 e) ∧ PP.underlying e = some (.int .i64) ∧ PP.cellsOf e = 1 ∧ PP.cellsOf t0 = 7 := ⟨82, 3, by kernel_rfl, by kernel_rfl, by kernel_rfl, by kernel_rfl, by kernel_rfl⟩
  obtain ⟨t0, e, g1, g2, g3, g4, g5⟩ := ty
  obtain rfl := Option.some.inj (g1.symm.trans h2)
  have hcs := Lib.cells_of_tab (zs := tensL) g2 g3 g4 g5 h4
  intro i hi
  rw [World.var?_cell h1 h3 i, ← Array.getElem?_toList, hcs]
  match i, hi with
  | 0, _ | 1, _ | 2, _ | 3, _ | 4, _ | 5, _ | 6, _ => rfl
theorem first_cells (h : laidMet PP laid8 W) : ∀ i, i < 256 → W.cell? ⟨2, i, none⟩ = some (.int .u8 (Lib.firstT i)) := by
  obtain ⟨g, t, cs, fuel, p, h1, h2, h3, h4⟩ := Lib.laidMet.reads h (n := "unicode/utf8.first") (d := Rows.laid_unicode_utf8_first) (by simp [laid8, Rows.lexerTokensRow])
  obtain rfl := Option.some.inj (gFirst.symm.trans h1)
  have ty : ∃ t0 e, (PP.globals[2]?).map (·.type) = some t0 ∧ PP.underlying t0 = some (.array 256 e) ∧ PP.underlying e = some (.int .u8) ∧ PP.cellsOf e = 1 ∧ PP.cellsOf t0 = 256 := ⟨48, 5, by kernel_rfl, by kernel_rfl, by kernel_rfl, by kernel_rfl, by kernel_rfl⟩
  obtain ⟨t0, e, g1, g2, g3, g4, g5⟩ := ty
  obtain rfl := Option.some.inj (g1.symm.trans h2)
  have hd : Rows.laid_unicode_utf8_first = Lib.tabData .u8 Lib.firstTab := by kernel_rfl
  rw [hd] at h4
  have hcs := Lib.cells_of_tab g2 g3 g4 g5 h4
  intro i hi
  rw [World.var?_cell h1 h3 i, ← Array.getElem?_toList, hcs]
  simp [Lib.firstTab, hi]
theorem acc_cells (h : laidMet PP laid8 W) : ∀ i, i < 16 → W.cell? ⟨3, 2 * i, none⟩ = some (.int .u8 (Lib.accLo i)) ∧ W.cell? ⟨3, 2 * i + 1, none⟩ = some (.int .u8 (Lib.accHi i)) := by
  obtain ⟨g, t, cs, fuel, p, h1, h2, h3, h4⟩ := Lib.laidMet.reads h (n := "unicode/utf8.acceptRanges") (d := Rows.laid_unicode_utf8_acceptRanges) (by simp [laid8, Rows.lexerTokensRow])
  obtain rfl := Option.some.inj (gAcc.symm.trans h1)
  have ty : ∃ t0 e f0 f1, (PP.globals[3]?).map (·.type) = some t0 ∧ PP.underlying t0 = some (.array 16 e) ∧ PP.underlying e = some (.struct #[f0, f1]) ∧ PP.cellsOf e = 2 ∧ PP.underlying f0.type = some (.int .u8) ∧ PP.underlying f1.type = some (.int .u8) ∧ f0.offset = 0 ∧ f1.offset = 1 ∧ PP.cellsOf f0.type = 1 ∧ PP.cellsOf f1.type = 1 :=
    ⟨99, 98, _, _, by kernel_rfl, by kernel_rfl, Tryd.underlying98, by kernel_rfl, by kernel_rfl, by kernel_rfl, rfl, rfl, by kernel_rfl, by kernel_rfl⟩
  obtain ⟨t0, e, f0, f1, g1, g2, g3, g4, g5, g6, o0, o1, c0, c1⟩ := ty
  obtain rfl := Option.some.inj (g1.symm.trans h2)
  have hd : Rows.laid_unicode_utf8_acceptRanges = Lib.acceptData := by kernel_rfl
  rw [hd] at h4
  intro i hi
  obtain ⟨fuel', d, q, hdi, he⟩ := Lib.array_elem g2 h4 i hi
  simp only [List.getElem?_map, List.getElem?_range hi, Option.map_some, Option.some.injEq] at hdi
  subst hdi
  rw [g4] at he
  have hcs := Lib.ints_of_struct (k := .u8) g3 (fun j f hj => by
    match j, hj with
    | 0, hj => simp at hj; subst hj; exact ⟨g5, o0, c0⟩
    | 1, hj => simp at hj; subst hj; exact ⟨g6, o1, c1⟩
    | j + 2, hj => simp at hj) (by rw [g4]; rfl) he
  have e0 := congrArg (·[0]?) hcs
  have e1 := congrArg (·[1]?) hcs
  simp only [List.getElem?_take, List.getElem?_drop] at e0 e1
  constructor
  · rw [World.var?_cell h1 h3 (2 * i), ← Array.getElem?_toList]
    simpa [Nat.mul_comm] using e0
  · rw [World.var?_cell h1 h3 (2 * i + 1), ← Array.getElem?_toList]
    simpa [Nat.mul_comm] using e1
theorem range_cell (h : laidMet PP laid8 W) : ∃ t v, W.cell? ⟨5, 0, none⟩ = some (.iface t v) := by
  obtain ⟨g, t, cs, fuel, p, h1, h2, h3, h4⟩ := Lib.laidMet.reads h (n := "strconv.ErrRange") (d := Rows.laid_strconv_ErrRange) (by simp [laid8, Rows.lexerTokensRow])
  obtain rfl := Option.some.inj (gRange.symm.trans h1)
  have ty : ∃ t0 ms, (PP.globals[5]?).map (·.type) = some t0 ∧ PP.underlying t0 = some (.interface ms) := ⟨71, _, by kernel_rfl, Tryd.underlying71⟩
  obtain ⟨t0, ms, g1, g2⟩ := ty
  obtain rfl := Option.some.inj (g1.symm.trans h2)
  obtain ⟨_, u, v, hcs, _⟩ := iface_of_trod g2 h4
  refine ⟨u, v, ?_⟩
  rw [World.var?_cell h1 h3 0, ← Array.getElem?_toList, hcs]
  rfl
theorem keptAcc_at {j : Nat} (h : j < 32) : keptAcc[j]? = some (.int .u8 (if j % 2 = 0 then Lib.accLo (j / 2) else Lib.accHi (j / 2) : Nat)) := by
  match j, h with
  | 0, _ => show some (AV.int .u8 128) = some (.int .u8 (if 0 % 2 = 0 then Lib.accLo (0 / 2) else Lib.accHi (0 / 2) : Nat)); simp [Lib.accLo, Lib.accHi]
  | 1, _ => show some (AV.int .u8 191) = some (.int .u8 (if 1 % 2 = 0 then Lib.accLo (1 / 2) else Lib.accHi (1 / 2) : Nat)); simp [Lib.accLo, Lib.accHi]
  | 2, _ => show some (AV.int .u8 160) = some (.int .u8 (if 2 % 2 = 0 then Lib.accLo (2 / 2) else Lib.accHi (2 / 2) : Nat)); simp [Lib.accLo, Lib.accHi]
  | 3, _ => show some (AV.int .u8 191) = some (.int .u8 (if 3 % 2 = 0 then Lib.accLo (3 / 2) else Lib.accHi (3 / 2) : Nat)); simp [Lib.accLo, Lib.accHi]
  | 4, _ => show some (AV.int .u8 128) = some (.int .u8 (if 4 % 2 = 0 then Lib.accLo (4 / 2) else Lib.accHi (4 / 2) : Nat)); simp [Lib.accLo, Lib.accHi]
  | 5, _ => show some (AV.int .u8 159) = some (.int .u8 (if 5 % 2 = 0 then Lib.accLo (5 / 2) else Lib.accHi (5 / 2) : Nat)); simp [Lib.accLo, Lib.accHi]
  | 6, _ => show some (AV.int .u8 144) = some (.int .u8 (if 6 % 2 = 0 then Lib.accLo (6 / 2) else Lib.accHi (6 / 2) : Nat)); simp [Lib.accLo, Lib.accHi]
  | 7, _ => show some (AV.int .u8 191) = some (.int .u8 (if 7 % 2 = 0 then Lib.accLo (7 / 2) else Lib.accHi (7 / 2) : Nat)); simp [Lib.accLo, Lib.accHi]
  | 8, _ => show some (AV.int .u8 128) = some (.int .u8 (if 8 % 2 = 0 then Lib.accLo (8 / 2) else Lib.accHi (8 / 2) : Nat)); simp [Lib.accLo, Lib.accHi]
  | 9, _ => show some (AV.int .u8 143) = some (.int .u8 (if 9 % 2 = 0 then Lib.accLo (9 / 2) else Lib.accHi (9 / 2) : Nat)); simp [Lib.accLo, Lib.accHi]
  | 10, _ => show some (AV.int .u8 0) = some (.int .u8 (if 10 % 2 = 0 then Lib.accLo (10 / 2) else Lib.accHi (10 / 2) : Nat)); simp [Lib.accLo, Lib.accHi]
  | 11, _ => show some (AV.int .u8 0) = some (.int .u8 (if 11 % 2 = 0 then Lib.accLo (11 / 2) else Lib.accHi (11 / 2) : Nat)); simp [Lib.accLo, Lib.accHi]
  | 12, _ => show some (AV.int .u8 0) = some (.int .u8 (if 12 % 2 = 0 then Lib.accLo (12 / 2) else Lib.accHi (12 / 2) : Nat)); simp [Lib.accLo, Lib.accHi]
  | 13, _ => show some (AV.int .u8 0) = some (.int .u8 (if 13 % 2 = 0 then Lib.accLo (13 / 2) else Lib.accHi (13 / 2) : Nat)); simp [Lib.accLo, Lib.accHi]
  | 14, _ => show some (AV.int .u8 0) = some (.int .u8 (if 14 % 2 = 0 then Lib.accLo (14 / 2) else Lib.accHi (14 / 2) : Nat)); simp [Lib.accLo, Lib.accHi]
  | 15, _ => show some (AV.int .u8 0) = some (.int .u8 (if 15 % 2 = 0 then Lib.accLo (15 / 2) else Lib.accHi (15 / 2) : Nat)); simp [Lib.accLo, Lib.accHi]
  | 16, _ => show some (AV.int .u8 0) = some (.int .u8 (if 16 % 2 = 0 then Lib.accLo (16 / 2) else Lib.accHi (16 / 2) : Nat)); simp [Lib.accLo, Lib.accHi]
  | 17, _ => show some (AV.int .u8 0) = some (.int .u8 (if 17 % 2 = 0 then Lib.accLo (17 / 2) else Lib.accHi (17 / 2) : Nat)); simp [Lib.accLo, Lib.accHi]
  | 18, _ => show some (AV.int .u8 0) = some (.int .u8 (if 18 % 2 = 0 then Lib.accLo (18 / 2) else Lib.accHi (18 / 2) : Nat)); simp [Lib.accLo, Lib.accHi]
  | 19, _ => show some (AV.int .u8 0) = some (.int .u8 (if 19 % 2 = 0 then Lib.accLo (19 / 2) else Lib.accHi (19 / 2) : Nat)); simp [Lib.accLo, Lib.accHi]
  | 20, _ => show some (AV.int .u8 0) = some (.int .u8 (if 20 % 2 = 0 then Lib.accLo (20 / 2) else Lib.accHi (20 / 2) : Nat)); simp [Lib.accLo, Lib.accHi]
  | 21, _ => show some (AV.int .u8 0) = some (.int .u8 (if 21 % 2 = 0 then Lib.accLo (21 / 2) else Lib.accHi (21 / 2) : Nat)); simp [Lib.accLo, Lib.accHi]
  | 22, _ => show some (AV.int .u8 0) = some (.int .u8 (if 22 % 2 = 0 then Lib.accLo (22 / 2) else Lib.accHi (22 / 2) : Nat)); simp [Lib.accLo, Lib.accHi]
  | 23, _ => show some (AV.int .u8 0) = some (.int .u8 (if 23 % 2 = 0 then Lib.accLo (23 / 2) else Lib.accHi (23 / 2) : Nat)); simp [Lib.accLo, Lib.accHi]
  | 24, _ => show some (AV.int .u8 0) = some (.int .u8 (if 24 % 2 = 0 then Lib.accLo (24 / 2) else Lib.accHi (24 / 2) : Nat)); simp [Lib.accLo, Lib.accHi]
  | 25, _ => show some (AV.int .u8 0) = some (.int .u8 (if 25 % 2 = 0 then Lib.accLo (25 / 2) else Lib.accHi (25 / 2) : Nat)); simp [Lib.accLo, Lib.accHi]
  | 26, _ => show some (AV.int .u8 0) = some (.int .u8 (if 26 % 2 = 0 then Lib.accLo (26 / 2) else Lib.accHi (26 / 2) : Nat)); simp [Lib.accLo, Lib.accHi]
  | 27, _ => show some (AV.int .u8 0) = some (.int .u8 (if 27 % 2 = 0 then Lib.accLo (27 / 2) else Lib.accHi (27 / 2) : Nat)); simp [Lib.accLo, Lib.accHi]
  | 28, _ => show some (AV.int .u8 0) = some (.int .u8 (if 28 % 2 = 0 then Lib.accLo (28 / 2) else Lib.accHi (28 / 2) : Nat)); simp [Lib.accLo, Lib.accHi]
  | 29, _ => show some (AV.int .u8 0) = some (.int .u8 (if 29 % 2 = 0 then Lib.accLo (29 / 2) else Lib.accHi (29 / 2) : Nat)); simp [Lib.accLo, Lib.accHi]
  | 30, _ => show some (AV.int .u8 0) = some (.int .u8 (if 30 % 2 = 0 then Lib.accLo (30 / 2) else Lib.accHi (30 / 2) : Nat)); simp [Lib.accLo, Lib.accHi]
  | 31, _ => show some (AV.int .u8 0) = some (.int .u8 (if 31 % 2 = 0 then Lib.accLo (31 / 2) else Lib.accHi (31 / 2) : Nat)); simp [Lib.accLo, Lib.accHi]
  | j + 32, h => exact absurd h (by omega)
theorem glob8A (h : laidMet PP laid8 W) {m : Int} (hm : W.cell? ⟨0, 0, none⟩ = some (.int .i64 m)) : GlobOk (G8 m) (oldE W) W := by
  refine globA fun g e hg => ?_
  match g, hg with
  | 0, hg =>
    simp only [G8, Option.some.injEq] at hg
    subst hg
    refine ⟨rfl, fun j c hj => ?_⟩
    match j, hj with
    | 0, hj => simp [AV.cells] at hj; subst hj; exact ⟨_, hm, .int _ _, rfl⟩
    | j + 1, hj => simp [AV.cells] at hj
  | 1, hg =>
    simp only [G8, Option.some.injEq] at hg
    subst hg
    refine ⟨rfl, fun j c hj => ?_⟩
    have hlt : j < 7 := (List.getElem?_eq_some_iff.1 hj).1
    refine ⟨_, tens_cells h j hlt, ?_, rfl⟩
    have : c = .int .i64 (10 ^ j) := by
      match j, hlt with
      | 0, _ | 1, _ | 2, _ | 3, _ | 4, _ | 5, _ | 6, _ => simp [tensA, AV.cells] at hj; subst hj; rfl
    subst this
    exact .int _ _
  | 2, hg =>
    simp only [G8, Option.some.injEq] at hg
    subst hg
    refine ⟨?_, fun j c hj => ?_⟩
    · simp only [keptFirstA, AV.closed1, keptFirst, List.all_map, List.all_eq_true]
      intro x _; rfl
    · have hlt : j < 256 := by
        have := (List.getElem?_eq_some_iff.1 hj).1
        simpa [keptFirstA, AV.cells, keptFirst] using this
      refine ⟨_, first_cells h j hlt, ?_, rfl⟩
      have : c = .int .u8 (Lib.firstT j) := by
        simp only [keptFirstA, AV.cells, keptFirst, List.getElem?_map, List.getElem?_range hlt, Option.map_some, Option.some.injEq] at hj
        exact hj.symm
      subst this
      exact .int _ _
  | 3, hg =>
    simp only [G8, Option.some.injEq] at hg
    subst hg
    refine ⟨rfl, fun j c hj => ?_⟩
    have hlt : j < 32 := (List.getElem?_eq_some_iff.1 hj).1
    have key : W.cell? ⟨3, j, none⟩ = some (.int .u8 (if j % 2 = 0 then Lib.accLo (j / 2) else Lib.accHi (j / 2))) := by
      obtain ⟨a1, a2⟩ := acc_cells h (j / 2) (by omega)
      by_cases hp : j % 2 = 0
      · rw [if_pos hp, show j = 2 * (j / 2) by omega, a1]
        congr 4; omega
      · rw [if_neg hp]
        conv => lhs; rw [show j = 2 * (j / 2) + 1 by omega]
        rw [a2]
    refine ⟨_, key, ?_, rfl⟩
    have h2 := keptAcc_at hlt
    have h3 : keptAcc[j]? = some c := hj
    rw [h3] at h2
    injection h2 with h2
    subst h2
    by_cases hp : j % 2 = 0
    · simp only [hp, if_true]; exact .int _ _
    · simp only [hp, if_false]; exact .int _ _
  | 4, hg => cases hg
  | 5, hg =>
    simp only [G8, Option.some.injEq] at hg
    subst hg
    refine ⟨rfl, fun j c hj => ?_⟩
    match j, hj with
    | 0, hj =>
      simp [AV.cells] at hj; subst hj
      obtain ⟨t, v, hv⟩ := range_cell h
      exact ⟨_, hv, .ifc _ _, rfl⟩
    | j + 1, hj => simp [AV.cells] at hj
  | g + 6, hg => cases hg
end
end Go.Abs

namespace Go.Abs
open Go.Proofs Go.ChangeShapes Go.WideShapes Go.ChangeAt Go.RowKit Go.Deep Go.ChangeMaps

instance : Inhabited TI := ⟨⟨0, [], 0⟩⟩
theorem tok_struct : ∃ f0 f1 f2 : Field, PP.underlying 38 = some (.struct #[f0, f1, f2]) ∧ f0.type = 3 ∧ f0.offset = 0 ∧ f1.type = 9 ∧ f1.offset = 1 ∧ f2.type = 3 ∧ f2.offset = 2 := ⟨_, _, _, Tryd.underlying38, rfl, rfl, rfl, rfl, rfl, rfl⟩
theorem tok_cells : PP.cellsOf 38 = 3 := by kernel_rfl
theorem int_cells : PP.cellsOf 3 = 1 := by kernel_rfl
theorem str_cells : PP.cellsOf 9 = 1 := by kernel_rfl
theorem tiA_ok (a : TI) : (tiA a).cells.length = 3 ∧ (tiA a).closed1 = true := ⟨rfl, rfl⟩
set_option maxRecDepth 100000 in
theorem elem_tok {H : Type} {enc : TypeId × Value → H} {W : World} : ElemOk PP W enc 38 tiA := by
  intro n cs x h
  obtain ⟨f0, f1, f2, hu, t0, o0, t1, o1, t2, o2⟩ := tok_struct
  obtain ⟨xs, m, _, _, hlen, hxl, hf⟩ := DataW.trod_struct hu h
  rw [tok_cells] at hlen
  have h0 := hf 0 f0 rfl
  have h1 := hf 1 f1 rfl
  have h2 := hf 2 f2 rfl
  rw [t0, o0, int_cells] at h0
  rw [t1, o1, str_cells] at h1
  rw [t2, o2, int_cells] at h2
  match cs, hlen, xs, hxl with
  | [c0, c1, c2], _, [y0, y1, y2], _ =>
    simp at h0 h1 h2
    obtain ⟨i, e0, _, wi⟩ := DataW.trod_int Tryd.underlying3 h0
    obtain ⟨s, e1, _, _⟩ := DataW.trod_string Tryd.underlying9 h1
    obtain ⟨k, e2, _, wk⟩ := DataW.trod_int Tryd.underlying3 h2
    simp at e0 e1 e2
    subst e0; subst e1; subst e2
    refine ⟨⟨i, s.data.toList, k⟩, fun E j c u hc hu => ?_⟩
    match j, hc, hu with
    | 0, hc, hu => simp [tiA, AV.cells] at hc hu; subst hc; subst hu; exact ⟨.int _ _, rfl⟩
    | 1, hc, hu => simp [tiA, AV.cells] at hc hu; subst hc; subst hu; exact ⟨mk_str s, rfl⟩
    | 2, hc, hu => simp [tiA, AV.cells] at hc hu; subst hc; subst hu; exact ⟨.int _ _, rfl⟩
    | j + 3, hc, hu => simp [tiA, AV.cells] at hc
set_option maxRecDepth 100000 in
theorem open_toksA {H : Type} {enc : TypeId × Value → H} {W : World} {v : Value} {d : DataW H} {ps : List MemPlace} {b0 : Nat} (hv : Value.okWide PP W .any b0 24 v) (h : DataW.Trod enc PP W 0 (fun _ => true) true 24 v d ps) :
    ∃ l : List TI, Rep (oldE W) W (.sl 3 (tksL l) .no) v :=
  open_slA (P := PP) (g := tiA) (sz := 3) Tryd.underlying24 tok_cells (by omega) tiA_ok elem_tok hv h

theorem witness_row_shaped {H : Type} {enc : TypeId × Value → H} {C : Checked} {os : Os} {f : FuncId} {fn : Func} {s : OpenSpec} {conds : List PathCond} {apart : Bool} {laid : List (String × DataW Unit)} (w0 : World) (args : Array Value) (hos : w0.os = os)
    (hsh : (w0.forCall (fun _ _ => 0) ⟨#[], args, []⟩).Shaped C.prog)
    (hok : Input.okWideB C.prog (w0.forCall (fun _ _ => 0) ⟨#[], args, []⟩) f ⟨#[], args, []⟩ = true)
    (hrow : s.preRow enc C.prog fn conds apart laid (w0.forCall (fun _ _ => 0) ⟨#[], args, []⟩).memory args) :
    ∃ (w : World) (tape : Tape) (i : Input), w.os = os ∧ (w.forCall tape i).Shaped C.prog ∧ i.vars = [] ∧ Input.okWide C.prog (w.forCall tape i) .any w.heap.size f i ∧
      s.preRow enc C.prog fn conds apart laid (w.forCall tape i).memory i.args ∧ ({} : Assume).holds C.prog (lone (Frame.enter C.prog f i.args .normal) [] (w.forCall tape i)) :=
  ⟨w0, fun _ _ => 0, ⟨#[], args, []⟩, hos, hsh, (Input.okWide_of_okWideB (base := 0) hok).1, (Input.okWide_of_okWideB hok).2, hrow, by
    simp only [Assume.holds]
    exact ⟨by simp, by simp, fun _ => Modest.zero, by simp, by simp⟩⟩
end Go.Abs
