/- what is to be shown of the words -/
import Derived.Test.YtooobfhjklcnjaaDoorLx08W
namespace Go.Abs
open Go.Proofs
theorem w16 (m : Int) (s : List UInt8) : (pureW PP (G8 m) XW (tbl lib8) (itbl []) nAn [] 16 [.str s] (.bool (kwR s), [])) =
(((!s == []) = true →
    ∃ (b : Bool),
      CallIs (tbl [(50, sIndexByte), (53, sIndexByteString), (32, sContains)] 32 [AV.str s, AV.str [32]]) (AV.bool b) [] ∧
        (b = true → RetIs (AV.bool false) [] (AV.bool (kwR s), [])) ∧
          (b = false →
            1 + s.length ≤ 9223372036854775807 ∧
              ([32] ++ s).length + 1 ≤ 9223372036854775807 ∧
                ∃ (b : Bool),
                  CallIs
                      (some
                        (AV.bool
                            (Lib.contains
                              [32, 116, 97, 98, 108, 101, 32, 102, 101, 97, 116, 117, 114, 101, 32, 111, 102, 32, 107, 101, 101, 112, 32, 98, 111, 111, 108, 32,
                                116, 101, 120, 116, 32, 107, 101, 121, 32, 105, 110, 116, 32, 100, 101, 99, 32, 105, 102, 32, 116, 104, 101, 110, 32, 101, 108,
                                115, 101, 32, 100, 101, 102, 97, 117, 108, 116, 32, 111, 114, 32, 97, 110, 100, 32, 110, 111, 116, 32, 116, 114, 117, 101, 32,
                                102, 97, 108, 115, 101, 32, 110, 117, 108, 108, 32, 99, 111, 117, 110, 116, 32, 115, 117, 109, 32, 109, 101, 97, 110, 32, 109,
                                105, 110, 32, 109, 97, 120, 32, 102, 105, 114, 115, 116, 32, 108, 97, 115, 116, 32, 100, 105, 115, 116, 105, 110, 99, 116, 32,
                                113, 117, 97, 110, 116, 105, 108, 101, 32, 100, 101, 99, 97, 121, 32, 97, 108, 108, 32, 115, 108, 105, 100, 105, 110, 103, 32,
                                116, 117, 109, 98, 108, 105, 110, 103, 32, 115, 101, 115, 115, 105, 111, 110, 32, 119, 104, 101, 114, 101, 32]
                              ([32] ++ s ++ [32])),
                          []))
                      (AV.bool b) [] ∧
                    (b = true → RetIs (AV.bool true) [] (AV.bool (kwR s), [])) ∧ (b = false → RetIs (AV.bool false) [] (AV.bool (kwR s), [])))) ∧
  ((!s == []) = false → RetIs (AV.bool false) [] (AV.bool (kwR s), []))) := by kernel_rfl
theorem w17 (m : Int) (s : List UInt8) : (pureW PP (G8 m) XW (tbl []) (itbl []) nAn [] 17 [.str s] (.bool (kwR s), [])) =
(((s == [116, 97, 98, 108, 101]) = true → RetIs (AV.bool true) [] (AV.bool (kwR s), [])) ∧
  ((s == [116, 97, 98, 108, 101]) = false →
    ((s == [102, 101, 97, 116, 117, 114, 101]) = true → RetIs (AV.bool true) [] (AV.bool (kwR s), [])) ∧
      ((s == [102, 101, 97, 116, 117, 114, 101]) = false →
        ((s == [111, 102]) = true → RetIs (AV.bool true) [] (AV.bool (kwR s), [])) ∧
          ((s == [111, 102]) = false →
            ((s == [107, 101, 101, 112]) = true → RetIs (AV.bool true) [] (AV.bool (kwR s), [])) ∧
              ((s == [107, 101, 101, 112]) = false →
                ((s == [98, 111, 111, 108]) = true → RetIs (AV.bool true) [] (AV.bool (kwR s), [])) ∧
                  ((s == [98, 111, 111, 108]) = false →
                    ((s == [116, 101, 120, 116]) = true → RetIs (AV.bool true) [] (AV.bool (kwR s), [])) ∧
                      ((s == [116, 101, 120, 116]) = false →
                        ((s == [107, 101, 121]) = true → RetIs (AV.bool true) [] (AV.bool (kwR s), [])) ∧
                          ((s == [107, 101, 121]) = false →
                            ((s == [105, 110, 116]) = true → RetIs (AV.bool true) [] (AV.bool (kwR s), [])) ∧
                              ((s == [105, 110, 116]) = false →
                                ((s == [100, 101, 99]) = true → RetIs (AV.bool true) [] (AV.bool (kwR s), [])) ∧
                                  ((s == [100, 101, 99]) = false →
                                    ((s == [105, 102]) = true → RetIs (AV.bool true) [] (AV.bool (kwR s), [])) ∧
                                      ((s == [105, 102]) = false →
                                        ((s == [116, 104, 101, 110]) = true → RetIs (AV.bool true) [] (AV.bool (kwR s), [])) ∧
                                          ((s == [116, 104, 101, 110]) = false →
                                            ((s == [101, 108, 115, 101]) = true → RetIs (AV.bool true) [] (AV.bool (kwR s), [])) ∧
                                              ((s == [101, 108, 115, 101]) = false →
                                                ((s == [100, 101, 102, 97, 117, 108, 116]) = true → RetIs (AV.bool true) [] (AV.bool (kwR s), [])) ∧
                                                  ((s == [100, 101, 102, 97, 117, 108, 116]) = false →
                                                    ((s == [111, 114]) = true → RetIs (AV.bool true) [] (AV.bool (kwR s), [])) ∧
                                                      ((s == [111, 114]) = false →
                                                        ((s == [97, 110, 100]) = true → RetIs (AV.bool true) [] (AV.bool (kwR s), [])) ∧
                                                          ((s == [97, 110, 100]) = false →
                                                            ((s == [110, 111, 116]) = true → RetIs (AV.bool true) [] (AV.bool (kwR s), [])) ∧
                                                              ((s == [110, 111, 116]) = false →
                                                                ((s == [116, 114, 117, 101]) = true → RetIs (AV.bool true) [] (AV.bool (kwR s), [])) ∧
                                                                  ((s == [116, 114, 117, 101]) = false →
                                                                    ((s == [102, 97, 108, 115, 101]) = true → RetIs (AV.bool true) [] (AV.bool (kwR s), [])) ∧
                                                                      ((s == [102, 97, 108, 115, 101]) = false →
                                                                        ((s == [110, 117, 108, 108]) = true → RetIs (AV.bool true) [] (AV.bool (kwR s), [])) ∧
                                                                          ((s == [110, 117, 108, 108]) = false →
                                                                            ((s == [99, 111, 117, 110, 116]) = true →
                                                                                RetIs (AV.bool true) [] (AV.bool (kwR s), [])) ∧
                                                                              ((s == [99, 111, 117, 110, 116]) = false →
                                                                                ((s == [115, 117, 109]) = true →
                                                                                    RetIs (AV.bool true) [] (AV.bool (kwR s), [])) ∧
                                                                                  ((s == [115, 117, 109]) = false →
                                                                                    ((s == [109, 101, 97, 110]) = true →
                                                                                        RetIs (AV.bool true) [] (AV.bool (kwR s), [])) ∧
                                                                                      ((s == [109, 101, 97, 110]) = false →
                                                                                        ((s == [109, 105, 110]) = true →
                                                                                            RetIs (AV.bool true) [] (AV.bool (kwR s), [])) ∧
                                                                                          ((s == [109, 105, 110]) = false →
                                                                                            ((s == [109, 97, 120]) = true →
                                                                                                RetIs (AV.bool true) [] (AV.bool (kwR s), [])) ∧
                                                                                              ((s == [109, 97, 120]) = false →
                                                                                                ((s == [102, 105, 114, 115, 116]) = true →
                                                                                                    RetIs (AV.bool true) [] (AV.bool (kwR s), [])) ∧
                                                                                                  ((s == [102, 105, 114, 115, 116]) = false →
                                                                                                    ((s == [108, 97, 115, 116]) = true →
                                                                                                        RetIs (AV.bool true) [] (AV.bool (kwR s), [])) ∧
                                                                                                      ((s == [108, 97, 115, 116]) = false →
                                                                                                        ((s == [100, 105, 115, 116, 105, 110, 99, 116]) = true →
                                                                                                            RetIs (AV.bool true) [] (AV.bool (kwR s), [])) ∧
                                                                                                          ((s == [100, 105, 115, 116, 105, 110, 99, 116]) =
                                                                                                              false →
                                                                                                            ((s == [113, 117, 97, 110, 116, 105, 108, 101]) =
                                                                                                                  true →
                                                                                                                RetIs (AV.bool true) [] (AV.bool (kwR s), [])) ∧
                                                                                                              ((s == [113, 117, 97, 110, 116, 105, 108, 101]) =
                                                                                                                  false →
                                                                                                                ((s == [100, 101, 99, 97, 121]) = true →
                                                                                                                    RetIs (AV.bool true) []
                                                                                                                      (AV.bool (kwR s), [])) ∧
                                                                                                                  ((s == [100, 101, 99, 97, 121]) = false →
                                                                                                                    ((s == [97, 108, 108]) = true →
                                                                                                                        RetIs (AV.bool true) []
                                                                                                                          (AV.bool (kwR s), [])) ∧
                                                                                                                      ((s == [97, 108, 108]) = false →
                                                                                                                        ((s ==
                                                                                                                                [115, 108, 105, 100, 105, 110,
                                                                                                                                  103]) =
                                                                                                                              true →
                                                                                                                            RetIs (AV.bool true) []
                                                                                                                              (AV.bool (kwR s), [])) ∧
                                                                                                                          ((s ==
                                                                                                                                [115, 108, 105, 100, 105, 110,
                                                                                                                                  103]) =
                                                                                                                              false →
                                                                                                                            ((s ==
                                                                                                                                    [116, 117, 109, 98, 108,
                                                                                                                                      105, 110, 103]) =
                                                                                                                                  true →
                                                                                                                                RetIs (AV.bool true) []
                                                                                                                                  (AV.bool (kwR s), [])) ∧
                                                                                                                              ((s ==
                                                                                                                                    [116, 117, 109, 98, 108,
                                                                                                                                      105, 110, 103]) =
                                                                                                                                  false →
                                                                                                                                ((s ==
                                                                                                                                        [115, 101, 115, 115,
                                                                                                                                          105, 111, 110]) =
                                                                                                                                      true →
                                                                                                                                    RetIs (AV.bool true) []
                                                                                                                                      (AV.bool (kwR s), [])) ∧
                                                                                                                                  ((s ==
                                                                                                                                        [115, 101, 115, 115,
                                                                                                                                          105, 111, 110]) =
                                                                                                                                      false →
                                                                                                                                    ((s ==
                                                                                                                                            [119, 104, 101, 114,
                                                                                                                                              101]) =
                                                                                                                                          true →
                                                                                                                                        RetIs (AV.bool true) []
                                                                                                                                          (AV.bool (kwR s),
                                                                                                                                            [])) ∧
                                                                                                                                      ((s ==
                                                                                                                                            [119, 104, 101, 114,
                                                                                                                                              101]) =
                                                                                                                                          false →
                                                                                                                                        RetIs (AV.bool false) []
                                                                                                                                          (AV.bool (kwR s),
                                                                                                                                            [])))))))))))))))))))))))))))))))))))) := by kernel_rfl
theorem w18 (m : Int) (s : List UInt8) : (pureW PP (G8 m) XW (tbl [(16, s16)]) (itbl []) (a18 s) [] 18 [.str s] (.bool (nameR s), [])) =
(((s == []) = true → RetIs (AV.bool false) [] (AV.bool (nameR s), [])) ∧
  ((s == []) = false →
    (decide ((↑s.length : Int) > 24) = true → RetIs (AV.bool false) [] (AV.bool (nameR s), [])) ∧
      (decide ((↑s.length : Int) > 24) = false →
        ∃ (b : Bool),
          CallIs (tbl [(16, s16)] 16 [AV.str s]) (AV.bool b) [] ∧
            (b = true → RetIs (AV.bool false) [] (AV.bool (nameR s), [])) ∧
              (b = false →
                (∃ (y : Int),
                    ValsAre [AV.str s, AV.int IntKind.i64 (↑s.length : Int), AV.int IntKind.i64 0]
                        [AV.str s, AV.int IntKind.i64 (↑s.length : Int), AV.int IntKind.i64 y] ∧
                      StIs { boxes := [], live := [] } { boxes := [], live := [] } ∧ (∃ (k : Nat), y = (↑k : Int) ∧ k ≤ s.length ∧ (1 ≤ k → k ≤ wl s)) ∧ True) ∧
                  ∀ (x : Int),
                    (∃ (k : Nat), x = (↑k : Int) ∧ k ≤ s.length ∧ (1 ≤ k → k ≤ wl s)) →
                      (decide (x < (↑s.length : Int)) = true →
                          0 ≤ x ∧
                            ∃ (c : UInt8),
                              s[x.toNat]? = some c ∧
                                (decide ((↑c.toNat : Int) ≥ 97) = true →
                                    (decide ((↑c.toNat : Int) ≤ 122) = true →
                                        ∃ (y : Int),
                                          ValsAre [AV.str s, AV.int IntKind.i64 (↑s.length : Int), AV.int IntKind.i64 (IntKind.i64.wrap (x + 1))]
                                              [AV.str s, AV.int IntKind.i64 (↑s.length : Int), AV.int IntKind.i64 y] ∧
                                            StIs { boxes := [], live := [] } { boxes := [], live := [] } ∧
                                              (∃ (k : Nat), y = (↑k : Int) ∧ k ≤ s.length ∧ (1 ≤ k → k ≤ wl s)) ∧
                                                ((↑s.length : Int) - y).toNat < ((↑s.length : Int) - x).toNat) ∧
                                      (decide ((↑c.toNat : Int) ≤ 122) = false →
                                        (decide (x > 0) = true →
                                            (decide ((↑c.toNat : Int) ≥ 48) = true →
                                                (decide ((↑c.toNat : Int) ≤ 57) = true →
                                                    ∃ (y : Int),
                                                      ValsAre [AV.str s, AV.int IntKind.i64 (↑s.length : Int), AV.int IntKind.i64 (IntKind.i64.wrap (x + 1))]
                                                          [AV.str s, AV.int IntKind.i64 (↑s.length : Int), AV.int IntKind.i64 y] ∧
                                                        StIs { boxes := [], live := [] } { boxes := [], live := [] } ∧
                                                          (∃ (k : Nat), y = (↑k : Int) ∧ k ≤ s.length ∧ (1 ≤ k → k ≤ wl s)) ∧
                                                            ((↑s.length : Int) - y).toNat < ((↑s.length : Int) - x).toNat) ∧
                                                  (decide ((↑c.toNat : Int) ≤ 57) = false →
                                                    (((↑c.toNat : Int) == 95) = true →
                                                        ∃ (y : Int),
                                                          ValsAre
                                                              [AV.str s, AV.int IntKind.i64 (↑s.length : Int), AV.int IntKind.i64 (IntKind.i64.wrap (x + 1))]
                                                              [AV.str s, AV.int IntKind.i64 (↑s.length : Int), AV.int IntKind.i64 y] ∧
                                                            StIs { boxes := [], live := [] } { boxes := [], live := [] } ∧
                                                              (∃ (k : Nat), y = (↑k : Int) ∧ k ≤ s.length ∧ (1 ≤ k → k ≤ wl s)) ∧
                                                                ((↑s.length : Int) - y).toNat < ((↑s.length : Int) - x).toNat) ∧
                                                      (((↑c.toNat : Int) == 95) = false → RetIs (AV.bool false) [] (AV.bool (nameR s), [])))) ∧
                                              (decide ((↑c.toNat : Int) ≥ 48) = false →
                                                (((↑c.toNat : Int) == 95) = true →
                                                    ∃ (y : Int),
                                                      ValsAre [AV.str s, AV.int IntKind.i64 (↑s.length : Int), AV.int IntKind.i64 (IntKind.i64.wrap (x + 1))]
                                                          [AV.str s, AV.int IntKind.i64 (↑s.length : Int), AV.int IntKind.i64 y] ∧
                                                        StIs { boxes := [], live := [] } { boxes := [], live := [] } ∧
                                                          (∃ (k : Nat), y = (↑k : Int) ∧ k ≤ s.length ∧ (1 ≤ k → k ≤ wl s)) ∧
                                                            ((↑s.length : Int) - y).toNat < ((↑s.length : Int) - x).toNat) ∧
                                                  (((↑c.toNat : Int) == 95) = false → RetIs (AV.bool false) [] (AV.bool (nameR s), [])))) ∧
                                          (decide (x > 0) = false → RetIs (AV.bool false) [] (AV.bool (nameR s), [])))) ∧
                                  (decide ((↑c.toNat : Int) ≥ 97) = false →
                                    (decide (x > 0) = true →
                                        (decide ((↑c.toNat : Int) ≥ 48) = true →
                                            (decide ((↑c.toNat : Int) ≤ 57) = true →
                                                ∃ (y : Int),
                                                  ValsAre [AV.str s, AV.int IntKind.i64 (↑s.length : Int), AV.int IntKind.i64 (IntKind.i64.wrap (x + 1))]
                                                      [AV.str s, AV.int IntKind.i64 (↑s.length : Int), AV.int IntKind.i64 y] ∧
                                                    StIs { boxes := [], live := [] } { boxes := [], live := [] } ∧
                                                      (∃ (k : Nat), y = (↑k : Int) ∧ k ≤ s.length ∧ (1 ≤ k → k ≤ wl s)) ∧
                                                        ((↑s.length : Int) - y).toNat < ((↑s.length : Int) - x).toNat) ∧
                                              (decide ((↑c.toNat : Int) ≤ 57) = false →
                                                (((↑c.toNat : Int) == 95) = true →
                                                    ∃ (y : Int),
                                                      ValsAre [AV.str s, AV.int IntKind.i64 (↑s.length : Int), AV.int IntKind.i64 (IntKind.i64.wrap (x + 1))]
                                                          [AV.str s, AV.int IntKind.i64 (↑s.length : Int), AV.int IntKind.i64 y] ∧
                                                        StIs { boxes := [], live := [] } { boxes := [], live := [] } ∧
                                                          (∃ (k : Nat), y = (↑k : Int) ∧ k ≤ s.length ∧ (1 ≤ k → k ≤ wl s)) ∧
                                                            ((↑s.length : Int) - y).toNat < ((↑s.length : Int) - x).toNat) ∧
                                                  (((↑c.toNat : Int) == 95) = false → RetIs (AV.bool false) [] (AV.bool (nameR s), [])))) ∧
                                          (decide ((↑c.toNat : Int) ≥ 48) = false →
                                            (((↑c.toNat : Int) == 95) = true →
                                                ∃ (y : Int),
                                                  ValsAre [AV.str s, AV.int IntKind.i64 (↑s.length : Int), AV.int IntKind.i64 (IntKind.i64.wrap (x + 1))]
                                                      [AV.str s, AV.int IntKind.i64 (↑s.length : Int), AV.int IntKind.i64 y] ∧
                                                    StIs { boxes := [], live := [] } { boxes := [], live := [] } ∧
                                                      (∃ (k : Nat), y = (↑k : Int) ∧ k ≤ s.length ∧ (1 ≤ k → k ≤ wl s)) ∧
                                                        ((↑s.length : Int) - y).toNat < ((↑s.length : Int) - x).toNat) ∧
                                              (((↑c.toNat : Int) == 95) = false → RetIs (AV.bool false) [] (AV.bool (nameR s), [])))) ∧
                                      (decide (x > 0) = false → RetIs (AV.bool false) [] (AV.bool (nameR s), [])))) ∧
                        (decide (x < (↑s.length : Int)) = false → RetIs (AV.bool true) [] (AV.bool (nameR s), [])))))) := by kernel_rfl
theorem w19 (m : Int) (s : List UInt8) : (pureW PP (G8 m) XW (tbl [(17, s17), (33, s33')]) (itbl []) nAn [] 19 [.str s] (.bool (nameR s), [])) =
(((!s == []) = true →
    (decide ((↑s.length : Int) ≤ 24) = true →
        s.length ≤ 70368744177664 ∧
          ∃ (n : Int),
            CallIs (tbl [(17, s17), (33, s33')] 33 [AV.sl 1 (List.map (fun (c : UInt8) => AV.int IntKind.u8 (↑c.toNat : Int)) s) Own.no, AV.int IntKind.i64 0])
                (AV.int IntKind.i64 n) [] ∧
              ((n == (↑s.length : Int)) = true →
                  ∃ (b : Bool),
                    CallIs (some (AV.bool (kwR s), [])) (AV.bool b) [] ∧
                      (b = true → RetIs (AV.bool false) [] (AV.bool (nameR s), [])) ∧ (b = false → RetIs (AV.bool true) [] (AV.bool (nameR s), []))) ∧
                ((n == (↑s.length : Int)) = false → RetIs (AV.bool false) [] (AV.bool (nameR s), []))) ∧
      (decide ((↑s.length : Int) ≤ 24) = false → RetIs (AV.bool false) [] (AV.bool (nameR s), []))) ∧
  ((!s == []) = false → RetIs (AV.bool false) [] (AV.bool (nameR s), []))) := by kernel_rfl
theorem w4 (m : Int) (s : List UInt8) (s11 : Spec) : (pureW PP (G8 m) XW (tbl [(11, s11), (16, s16), (17, s17), (18, s18), (19, s18)]) (itbl []) nAn [] 4 [.str s] (.bool true, [])) =
(∃ (b : Bool),
  CallIs (tbl [(11, s11), (16, s16), (17, s17), (18, s18), (19, s18)] 11 []) (AV.bool b) [] ∧
    (b = true →
        (decide ((↑s.length : Int) > 200) = true → RetIs (AV.bool true) [] (AV.bool true, [])) ∧
          (decide ((↑s.length : Int) > 200) = false →
            ∃ (b : Bool),
              CallIs (tbl [(11, s11), (16, s16), (17, s17), (18, s18), (19, s18)] 16 [AV.str s]) (AV.bool b) [] ∧
                (b = true →
                    ∃ (b : Bool),
                      CallIs (some (AV.bool (kwR s), [])) (AV.bool b) [] ∧
                        (b = true →
                            (true = true →
                                ∃ (b : Bool),
                                  CallIs (tbl [(11, s11), (16, s16), (17, s17), (18, s18), (19, s18)] 18 [AV.str s]) (AV.bool b) [] ∧
                                    (b = true →
                                        ∃ (b : Bool),
                                          CallIs (tbl [(11, s11), (16, s16), (17, s17), (18, s18), (19, s18)] 19 [AV.str s]) (AV.bool b) [] ∧
                                            (b = true →
                                                (true = true → RetIs (AV.bool true) [] (AV.bool true, [])) ∧
                                                  (true = false → RetIs (AV.bool false) [] (AV.bool true, []))) ∧
                                              (b = false →
                                                (false = true → RetIs (AV.bool true) [] (AV.bool true, [])) ∧
                                                  (false = false → RetIs (AV.bool false) [] (AV.bool true, [])))) ∧
                                      (b = false →
                                        ∃ (b : Bool),
                                          CallIs (tbl [(11, s11), (16, s16), (17, s17), (18, s18), (19, s18)] 19 [AV.str s]) (AV.bool b) [] ∧
                                            (b = true →
                                                (false = true → RetIs (AV.bool true) [] (AV.bool true, [])) ∧
                                                  (false = false → RetIs (AV.bool false) [] (AV.bool true, []))) ∧
                                              (b = false →
                                                (true = true → RetIs (AV.bool true) [] (AV.bool true, [])) ∧
                                                  (true = false → RetIs (AV.bool false) [] (AV.bool true, []))))) ∧
                              (true = false → RetIs (AV.bool false) [] (AV.bool true, []))) ∧
                          (b = false →
                            (false = true →
                                ∃ (b : Bool),
                                  CallIs (tbl [(11, s11), (16, s16), (17, s17), (18, s18), (19, s18)] 18 [AV.str s]) (AV.bool b) [] ∧
                                    (b = true →
                                        ∃ (b : Bool),
                                          CallIs (tbl [(11, s11), (16, s16), (17, s17), (18, s18), (19, s18)] 19 [AV.str s]) (AV.bool b) [] ∧
                                            (b = true →
                                                (true = true → RetIs (AV.bool true) [] (AV.bool true, [])) ∧
                                                  (true = false → RetIs (AV.bool false) [] (AV.bool true, []))) ∧
                                              (b = false →
                                                (false = true → RetIs (AV.bool true) [] (AV.bool true, [])) ∧
                                                  (false = false → RetIs (AV.bool false) [] (AV.bool true, [])))) ∧
                                      (b = false →
                                        ∃ (b : Bool),
                                          CallIs (tbl [(11, s11), (16, s16), (17, s17), (18, s18), (19, s18)] 19 [AV.str s]) (AV.bool b) [] ∧
                                            (b = true →
                                                (false = true → RetIs (AV.bool true) [] (AV.bool true, [])) ∧
                                                  (false = false → RetIs (AV.bool false) [] (AV.bool true, []))) ∧
                                              (b = false →
                                                (true = true → RetIs (AV.bool true) [] (AV.bool true, [])) ∧
                                                  (true = false → RetIs (AV.bool false) [] (AV.bool true, []))))) ∧
                              (false = false → RetIs (AV.bool false) [] (AV.bool true, [])))) ∧
                  (b = false →
                    ∃ (b : Bool),
                      CallIs (some (AV.bool (kwR s), [])) (AV.bool b) [] ∧
                        (b = true →
                            (false = true →
                                ∃ (b : Bool),
                                  CallIs (tbl [(11, s11), (16, s16), (17, s17), (18, s18), (19, s18)] 18 [AV.str s]) (AV.bool b) [] ∧
                                    (b = true →
                                        ∃ (b : Bool),
                                          CallIs (tbl [(11, s11), (16, s16), (17, s17), (18, s18), (19, s18)] 19 [AV.str s]) (AV.bool b) [] ∧
                                            (b = true →
                                                (true = true → RetIs (AV.bool true) [] (AV.bool true, [])) ∧
                                                  (true = false → RetIs (AV.bool false) [] (AV.bool true, []))) ∧
                                              (b = false →
                                                (false = true → RetIs (AV.bool true) [] (AV.bool true, [])) ∧
                                                  (false = false → RetIs (AV.bool false) [] (AV.bool true, [])))) ∧
                                      (b = false →
                                        ∃ (b : Bool),
                                          CallIs (tbl [(11, s11), (16, s16), (17, s17), (18, s18), (19, s18)] 19 [AV.str s]) (AV.bool b) [] ∧
                                            (b = true →
                                                (false = true → RetIs (AV.bool true) [] (AV.bool true, [])) ∧
                                                  (false = false → RetIs (AV.bool false) [] (AV.bool true, []))) ∧
                                              (b = false →
                                                (true = true → RetIs (AV.bool true) [] (AV.bool true, [])) ∧
                                                  (true = false → RetIs (AV.bool false) [] (AV.bool true, []))))) ∧
                              (false = false → RetIs (AV.bool false) [] (AV.bool true, []))) ∧
                          (b = false →
                            (true = true →
                                ∃ (b : Bool),
                                  CallIs (tbl [(11, s11), (16, s16), (17, s17), (18, s18), (19, s18)] 18 [AV.str s]) (AV.bool b) [] ∧
                                    (b = true →
                                        ∃ (b : Bool),
                                          CallIs (tbl [(11, s11), (16, s16), (17, s17), (18, s18), (19, s18)] 19 [AV.str s]) (AV.bool b) [] ∧
                                            (b = true →
                                                (true = true → RetIs (AV.bool true) [] (AV.bool true, [])) ∧
                                                  (true = false → RetIs (AV.bool false) [] (AV.bool true, []))) ∧
                                              (b = false →
                                                (false = true → RetIs (AV.bool true) [] (AV.bool true, [])) ∧
                                                  (false = false → RetIs (AV.bool false) [] (AV.bool true, [])))) ∧
                                      (b = false →
                                        ∃ (b : Bool),
                                          CallIs (tbl [(11, s11), (16, s16), (17, s17), (18, s18), (19, s18)] 19 [AV.str s]) (AV.bool b) [] ∧
                                            (b = true →
                                                (false = true → RetIs (AV.bool true) [] (AV.bool true, [])) ∧
                                                  (false = false → RetIs (AV.bool false) [] (AV.bool true, []))) ∧
                                              (b = false →
                                                (true = true → RetIs (AV.bool true) [] (AV.bool true, [])) ∧
                                                  (true = false → RetIs (AV.bool false) [] (AV.bool true, []))))) ∧
                              (true = false → RetIs (AV.bool false) [] (AV.bool true, [])))))) ∧
      (b = false → RetIs (AV.bool false) [] (AV.bool true, []))) := by kernel_rfl
end Go.Abs
