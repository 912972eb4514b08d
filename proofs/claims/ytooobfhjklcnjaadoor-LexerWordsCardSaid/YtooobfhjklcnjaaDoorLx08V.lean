/- what is to be shown -/
import Derived.Test.YtooobfhjklcnjaaDoorLx08
namespace Go.Abs
open Go.Proofs
theorem w49 (m : Int) (n : Int) : (pureW PP (G8 m) X1 (tbl []) (itbl []) ⟨nA, nA⟩ [] 49 [.int .u8 n] (.bool (decide (97 ≤ n ∧ n ≤ 122)), [])) =
((decide (n ≥ 97) = true →
    (decide (n ≤ 122) = true → RetIs (AV.bool true) [] (AV.bool (decide (97 ≤ n ∧ n ≤ 122)), [])) ∧
      (decide (n ≤ 122) = false → RetIs (AV.bool false) [] (AV.bool (decide (97 ≤ n ∧ n ≤ 122)), []))) ∧
  (decide (n ≥ 97) = false → RetIs (AV.bool false) [] (AV.bool (decide (97 ≤ n ∧ n ≤ 122)), []))) := by kernel_rfl
theorem w33 (m : Int) (bs : List UInt8) (i : Nat) : (pureW PP (G8 m) X1 (tbl t33) (itbl []) (a33 bs i) [] 33 [bytesA bs, .int .i64 i] (.int .i64 (wl (bs.drop i)), [])) =
((0 ≤ (↑i : Int) ∧ (↑i : Int) < (↑(bytesL bs).length : Int)) ∧
  ∃ (n : Int),
    takeAt PP 5 (bytesL bs) (↑i : Int).toNat 0 = some (AV.int IntKind.u8 n) ∧
      ∃ (b : Bool),
        CallIs (some (AV.bool (decide (97 ≤ n ∧ n ≤ 122)), [])) (AV.bool b) [] ∧
          (b = true →
              (∃ (y : Int),
                  ValsAre [AV.sl 1 (bytesL bs) Own.no, AV.int IntKind.i64 (↑i : Int), AV.int IntKind.i64 1]
                      [AV.sl 1 (bytesL bs) Own.no, AV.int IntKind.i64 (↑i : Int), AV.int IntKind.i64 y] ∧
                    StIs { boxes := [], live := [] } { boxes := [], live := [] } ∧ (∃ (k : Nat), y = (↑k : Int) ∧ 1 ≤ k ∧ k ≤ wl (List.drop i bs)) ∧ True) ∧
                ∀ (x : Int),
                  (∃ (k : Nat), x = (↑k : Int) ∧ 1 ≤ k ∧ k ≤ wl (List.drop i bs)) →
                    (decide (IntKind.i64.wrap ((↑i : Int) + x) < (↑(bytesL bs).length : Int)) = true →
                        (0 ≤ IntKind.i64.wrap ((↑i : Int) + x) ∧ IntKind.i64.wrap ((↑i : Int) + x) < (↑(bytesL bs).length : Int)) ∧
                          ∃ (n : Int),
                            takeAt PP 5 (bytesL bs) (IntKind.i64.wrap ((↑i : Int) + x)).toNat 0 = some (AV.int IntKind.u8 n) ∧
                              ∃ (b : Bool),
                                CallIs (some (AV.bool (decide (97 ≤ n ∧ n ≤ 122)), [])) (AV.bool b) [] ∧
                                  (b = true →
                                      ∃ (y : Int),
                                        ValsAre [AV.sl 1 (bytesL bs) Own.no, AV.int IntKind.i64 (↑i : Int), AV.int IntKind.i64 (IntKind.i64.wrap (x + 1))]
                                            [AV.sl 1 (bytesL bs) Own.no, AV.int IntKind.i64 (↑i : Int), AV.int IntKind.i64 y] ∧
                                          StIs { boxes := [], live := [] } { boxes := [], live := [] } ∧
                                            (∃ (k : Nat), y = (↑k : Int) ∧ 1 ≤ k ∧ k ≤ wl (List.drop i bs)) ∧
                                              ((↑bs.length : Int) - y).toNat < ((↑bs.length : Int) - x).toNat) ∧
                                    (b = false →
                                      (0 ≤ IntKind.i64.wrap ((↑i : Int) + x) ∧ IntKind.i64.wrap ((↑i : Int) + x) < (↑(bytesL bs).length : Int)) ∧
                                        ∃ (n : Int),
                                          takeAt PP 5 (bytesL bs) (IntKind.i64.wrap ((↑i : Int) + x)).toNat 0 = some (AV.int IntKind.u8 n) ∧
                                            ∃ (b : Bool),
                                              CallIs (some (AV.bool (decide (48 ≤ n ∧ n ≤ 57)), [])) (AV.bool b) [] ∧
                                                (b = true →
                                                    ∃ (y : Int),
                                                      ValsAre
                                                          [AV.sl 1 (bytesL bs) Own.no, AV.int IntKind.i64 (↑i : Int),
                                                            AV.int IntKind.i64 (IntKind.i64.wrap (x + 1))]
                                                          [AV.sl 1 (bytesL bs) Own.no, AV.int IntKind.i64 (↑i : Int), AV.int IntKind.i64 y] ∧
                                                        StIs { boxes := [], live := [] } { boxes := [], live := [] } ∧
                                                          (∃ (k : Nat), y = (↑k : Int) ∧ 1 ≤ k ∧ k ≤ wl (List.drop i bs)) ∧
                                                            ((↑bs.length : Int) - y).toNat < ((↑bs.length : Int) - x).toNat) ∧
                                                  (b = false →
                                                    (0 ≤ IntKind.i64.wrap ((↑i : Int) + x) ∧ IntKind.i64.wrap ((↑i : Int) + x) < (↑(bytesL bs).length : Int)) ∧
                                                      ∃ (n : Int),
                                                        takeAt PP 5 (bytesL bs) (IntKind.i64.wrap ((↑i : Int) + x)).toNat 0 = some (AV.int IntKind.u8 n) ∧
                                                          ((n == 95) = true →
                                                              ∃ (y : Int),
                                                                ValsAre
                                                                    [AV.sl 1 (bytesL bs) Own.no, AV.int IntKind.i64 (↑i : Int),
                                                                      AV.int IntKind.i64 (IntKind.i64.wrap (x + 1))]
                                                                    [AV.sl 1 (bytesL bs) Own.no, AV.int IntKind.i64 (↑i : Int), AV.int IntKind.i64 y] ∧
                                                                  StIs { boxes := [], live := [] } { boxes := [], live := [] } ∧
                                                                    (∃ (k : Nat), y = (↑k : Int) ∧ 1 ≤ k ∧ k ≤ wl (List.drop i bs)) ∧
                                                                      ((↑bs.length : Int) - y).toNat < ((↑bs.length : Int) - x).toNat) ∧
                                                            ((n == 95) = false →
                                                              RetIs (AV.int IntKind.i64 x) [] (AV.int IntKind.i64 (↑(wl (List.drop i bs)) : Int), []))))) ∧
                      (decide (IntKind.i64.wrap ((↑i : Int) + x) < (↑(bytesL bs).length : Int)) = false →
                        RetIs (AV.int IntKind.i64 x) [] (AV.int IntKind.i64 (↑(wl (List.drop i bs)) : Int), []))) ∧
            (b = false → RetIs (AV.int IntKind.i64 0) [] (AV.int IntKind.i64 (↑(wl (List.drop i bs)) : Int), []))) := by kernel_rfl
theorem w44 (m : Int) (n : Int) : (pureW PP (G8 m) X1 (tbl []) (itbl []) ⟨nA, nA⟩ [] 44 [.int .u8 n] (.bool (decide (48 ≤ n ∧ n ≤ 57)), [])) =
((decide (n ≥ 48) = true →
    (decide (n ≤ 57) = true → RetIs (AV.bool true) [] (AV.bool (decide (48 ≤ n ∧ n ≤ 57)), [])) ∧
      (decide (n ≤ 57) = false → RetIs (AV.bool false) [] (AV.bool (decide (48 ≤ n ∧ n ≤ 57)), []))) ∧
  (decide (n ≥ 48) = false → RetIs (AV.bool false) [] (AV.bool (decide (48 ≤ n ∧ n ≤ 57)), []))) := by kernel_rfl
end Go.Abs
