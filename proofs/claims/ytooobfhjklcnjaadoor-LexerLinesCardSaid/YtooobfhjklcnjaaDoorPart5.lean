/- Own texts, part 5. -/
import Derived.Test.YtooobfhjklcnjaaDoorPart4

namespace Go.Abs
open Go.Proofs L8
theorem w61 (m : Int) (bs : List UInt8) (a : Nat) : (pureW PP (G8 m) XR (tbl [(44, s44)]) (itbl []) (a61 bs a) [] 61 [bytesA bs, .int .i64 a] (.int .i64 ((bs.drop a).takeWhile digitB).length, [])) =
((∃ (y : Nat),
    ValsAre [AV.sl (nat_lit 1) (bytesL bs) Own.no, AV.int IntKind.i64 (↑a : Int), AV.int IntKind.i64 (0 : Int)]
        [AV.sl (nat_lit 1) (bytesL bs) Own.no, AV.int IntKind.i64 (↑a : Int), AV.int IntKind.i64 (↑y : Int)] ∧
      StIs { boxes := [], live := [] } { boxes := [], live := [] } ∧ y ≤ (List.takeWhile digitB (List.drop a bs)).length ∧ True) ∧
  ∀ (x : Nat),
    x ≤ (List.takeWhile digitB (List.drop a bs)).length →
      (decide (IntKind.i64.wrap ((↑a : Int) + (↑x : Int)) < (↑(bytesL bs).length : Int)) = true →
 ((0 : Int) ≤ IntKind.i64.wrap ((↑a : Int) + (↑x : Int)) ∧ IntKind.i64.wrap ((↑a : Int) + (↑x : Int)) < (↑(bytesL bs).length : Int)) ∧
 ∃ (n : Int),
 takeAt PP (nat_lit 5) (bytesL bs) (IntKind.i64.wrap ((↑a : Int) + (↑x : Int))).toNat (nat_lit 0) = some (AV.int IntKind.u8 n) ∧
 ∃ (b : Bool),
 CallIs (some (AV.bool (decide ((48 : Int) ≤ n ∧ n ≤ (57 : Int))), [])) (AV.bool b) [] ∧
 (b = true →
 ∃ (y : Nat),
 ValsAre
 [AV.sl (nat_lit 1) (bytesL bs) Own.no, AV.int IntKind.i64 (↑a : Int),
 AV.int IntKind.i64 (IntKind.i64.wrap ((↑x : Int) + (1 : Int)))]
 [AV.sl (nat_lit 1) (bytesL bs) Own.no, AV.int IntKind.i64 (↑a : Int), AV.int IntKind.i64 (↑y : Int)] ∧
 StIs { boxes := [], live := [] } { boxes := [], live := [] } ∧
 y ≤ (List.takeWhile digitB (List.drop a bs)).length ∧ bs.length - y < bs.length - x) ∧
 (b = false →
 RetIs (AV.int IntKind.i64 (↑x : Int)) [] (AV.int IntKind.i64 (↑(List.takeWhile digitB (List.drop a bs)).length : Int), []))) ∧
        (decide (IntKind.i64.wrap ((↑a : Int) + (↑x : Int)) < (↑(bytesL bs).length : Int)) = false →
 RetIs (AV.int IntKind.i64 (↑x : Int)) [] (AV.int IntKind.i64 (↑(List.takeWhile digitB (List.drop a bs)).length : Int), []))) := by kernel_rfl
theorem w63 (m : Int) (l : List UInt8) : (pureW PP (G8 m) XR (tbl []) (itbl []) (a63 l) [] 63 [.str l] (.bool (decide (2 ^ 60 < valL l)), [])) =
((∃ (y : Nat),
    ValsAre [AV.str l, AV.int IntKind.i64 (0 : Int), AV.int IntKind.i64 (0 : Int)]
        [AV.str l, AV.int IntKind.i64 (↑(valL (List.take y l)) : Int), AV.int IntKind.i64 (↑y : Int)] ∧
      StIs { boxes := [], live := [] } { boxes := [], live := [] } ∧ (y ≤ l.length ∧ valL (List.take y l) ≤ (1152921504606846979 : Nat)) ∧ True) ∧
  ∀ (x : Nat),
    x ≤ l.length ∧ valL (List.take x l) ≤ (1152921504606846979 : Nat) →
      (decide ((↑x : Int) < (↑l.length : Int)) = true →
 (decide ((↑(valL (List.take x l)) : Int) > (115292150460684697 : Int)) = true →
 RetIs (AV.bool true) [] (AV.bool (decide (nat_lit 1152921504606846976 < valL l)), [])) ∧
 (decide ((↑(valL (List.take x l)) : Int) > (115292150460684697 : Int)) = false →
 (0 : Int) ≤ (↑x : Int) ∧
 ∃ (c : UInt8),
 l[(↑x : Int).toNat]? = some c ∧
 ∃ (y : Nat),
 ValsAre
 [AV.str l,
 AV.int IntKind.i64
 (IntKind.i64.wrap
 (IntKind.i64.wrap ((10 : Int) * (↑(valL (List.take x l)) : Int)) +
 IntKind.i64.wrap (IntKind.u8.wrap ((↑c.toNat : Int) - (48 : Int))))),
 AV.int IntKind.i64 (IntKind.i64.wrap ((↑x : Int) + (1 : Int)))]
 [AV.str l, AV.int IntKind.i64 (↑(valL (List.take y l)) : Int), AV.int IntKind.i64 (↑y : Int)] ∧
 StIs { boxes := [], live := [] } { boxes := [], live := [] } ∧
 (y ≤ l.length ∧ valL (List.take y l) ≤ (1152921504606846979 : Nat)) ∧ l.length - y < l.length - x)) ∧
        (decide ((↑x : Int) < (↑l.length : Int)) = false →
 (decide ((↑(valL (List.take x l)) : Int) > (1152921504606846976 : Int)) = true →
 RetIs (AV.bool true) [] (AV.bool (decide (nat_lit 1152921504606846976 < valL l)), [])) ∧
 (decide ((↑(valL (List.take x l)) : Int) > (1152921504606846976 : Int)) = false →
 RetIs (AV.bool false) [] (AV.bool (decide (nat_lit 1152921504606846976 < valL l)), [])))) := by kernel_rfl
theorem w30 (m : Int) (bs : List UInt8) (a : Nat) : (pureW PP (G8 m) XR (tbl [(43, s43)]) (itbl []) (a30 bs a) [] 30 [bytesA bs, .int .i64 a] (.int .i64 (a + skipL false (bs.drop a) : Nat), [])) =
((∃ (y : X30),
    ValsAre [AV.sl (nat_lit 1) (bytesL bs) Own.no, AV.int IntKind.i64 (↑a : Int), AV.bool false]
        [AV.sl (nat_lit 1) (bytesL bs) Own.no, AV.int IntKind.i64 (↑y.p : Int), AV.bool y.cm] ∧
      StIs { boxes := [], live := [] } { boxes := [], live := [] } ∧
        (y.p ≤ bs.length ∧ y.p + skipL y.cm (List.drop y.p bs) = a + skipL false (List.drop a bs)) ∧ True) ∧
  ∀ (x : X30),
    x.p ≤ bs.length ∧ x.p + skipL x.cm (List.drop x.p bs) = a + skipL false (List.drop a bs) →
      (x.cm = true →
 (decide ((↑x.p : Int) < (↑(bytesL bs).length : Int)) = true →
 ((0 : Int) ≤ (↑x.p : Int) ∧ (↑x.p : Int) < (↑(bytesL bs).length : Int)) ∧
 ∃ (n : Int),
 takeAt PP (nat_lit 5) (bytesL bs) (↑x.p : Int).toNat (nat_lit 0) = some (AV.int IntKind.u8 n) ∧
 ((n != (10 : Int)) = true →
 ((0 : Int) ≤ (↑x.p : Int) ∧ (↑x.p : Int) < (↑(bytesL bs).length : Int)) ∧
 ∃ (n : Int),
 takeAt PP (nat_lit 5) (bytesL bs) (↑x.p : Int).toNat (nat_lit 0) = some (AV.int IntKind.u8 n) ∧
 ((n != (10 : Int)) = true →
 ∃ (y : X30),
 ValsAre
 [AV.sl (nat_lit 1) (bytesL bs) Own.no, AV.int IntKind.i64 (IntKind.i64.wrap ((↑x.p : Int) + (1 : Int))), AV.bool true]
 [AV.sl (nat_lit 1) (bytesL bs) Own.no, AV.int IntKind.i64 (↑y.p : Int), AV.bool y.cm] ∧
 StIs { boxes := [], live := [] } { boxes := [], live := [] } ∧
 (y.p ≤ bs.length ∧ y.p + skipL y.cm (List.drop y.p bs) = a + skipL false (List.drop a bs)) ∧
 bs.length - y.p < bs.length - x.p) ∧
 ((n != (10 : Int)) = false →
 ∃ (y : X30),
 ValsAre
 [AV.sl (nat_lit 1) (bytesL bs) Own.no, AV.int IntKind.i64 (IntKind.i64.wrap ((↑x.p : Int) + (1 : Int))), AV.bool false]
 [AV.sl (nat_lit 1) (bytesL bs) Own.no, AV.int IntKind.i64 (↑y.p : Int), AV.bool y.cm] ∧
 StIs { boxes := [], live := [] } { boxes := [], live := [] } ∧
 (y.p ≤ bs.length ∧ y.p + skipL y.cm (List.drop y.p bs) = a + skipL false (List.drop a bs)) ∧
 bs.length - y.p < bs.length - x.p)) ∧
 ((n != (10 : Int)) = false →
 ((0 : Int) ≤ (↑x.p : Int) ∧ (↑x.p : Int) < (↑(bytesL bs).length : Int)) ∧
 ∃ (n : Int),
 takeAt PP (nat_lit 5) (bytesL bs) (↑x.p : Int).toNat (nat_lit 0) = some (AV.int IntKind.u8 n) ∧
 ∃ (b : Bool),
 CallIs (some (AV.bool (decide (n = (9 : Int) ∨ n = (10 : Int) ∨ n = (13 : Int) ∨ n = (32 : Int))), [])) (AV.bool b) [] ∧
 (b = true →
 ((0 : Int) ≤ (↑x.p : Int) ∧ (↑x.p : Int) < (↑(bytesL bs).length : Int)) ∧
 ∃ (n : Int),
 takeAt PP (nat_lit 5) (bytesL bs) (↑x.p : Int).toNat (nat_lit 0) = some (AV.int IntKind.u8 n) ∧
 ((n != (10 : Int)) = true →
 ∃ (y : X30),
 ValsAre
 [AV.sl (nat_lit 1) (bytesL bs) Own.no, AV.int IntKind.i64 (IntKind.i64.wrap ((↑x.p : Int) + (1 : Int))),
 AV.bool true]
 [AV.sl (nat_lit 1) (bytesL bs) Own.no, AV.int IntKind.i64 (↑y.p : Int), AV.bool y.cm] ∧
 StIs { boxes := [], live := [] } { boxes := [], live := [] } ∧
 (y.p ≤ bs.length ∧ y.p + skipL y.cm (List.drop y.p bs) = a + skipL false (List.drop a bs)) ∧
 bs.length - y.p < bs.length - x.p) ∧
 ((n != (10 : Int)) = false →
 ∃ (y : X30),
 ValsAre
 [AV.sl (nat_lit 1) (bytesL bs) Own.no, AV.int IntKind.i64 (IntKind.i64.wrap ((↑x.p : Int) + (1 : Int))),
 AV.bool false]
 [AV.sl (nat_lit 1) (bytesL bs) Own.no, AV.int IntKind.i64 (↑y.p : Int), AV.bool y.cm] ∧
 StIs { boxes := [], live := [] } { boxes := [], live := [] } ∧
 (y.p ≤ bs.length ∧ y.p + skipL y.cm (List.drop y.p bs) = a + skipL false (List.drop a bs)) ∧
 bs.length - y.p < bs.length - x.p)) ∧
 (b = false →
 ((0 : Int) ≤ (↑x.p : Int) ∧ (↑x.p : Int) < (↑(bytesL bs).length : Int)) ∧
 ∃ (n : Int),
 takeAt PP (nat_lit 5) (bytesL bs) (↑x.p : Int).toNat (nat_lit 0) = some (AV.int IntKind.u8 n) ∧
 ((n == (35 : Int)) = true →
 ((0 : Int) ≤ (↑x.p : Int) ∧ (↑x.p : Int) < (↑(bytesL bs).length : Int)) ∧
 ∃ (n : Int),
 takeAt PP (nat_lit 5) (bytesL bs) (↑x.p : Int).toNat (nat_lit 0) = some (AV.int IntKind.u8 n) ∧
 ((n != (10 : Int)) = true →
 ∃ (y : X30),
 ValsAre
 [AV.sl (nat_lit 1) (bytesL bs) Own.no,
 AV.int IntKind.i64 (IntKind.i64.wrap ((↑x.p : Int) + (1 : Int))), AV.bool true]
 [AV.sl (nat_lit 1) (bytesL bs) Own.no, AV.int IntKind.i64 (↑y.p : Int), AV.bool y.cm] ∧
 StIs { boxes := [], live := [] } { boxes := [], live := [] } ∧
 (y.p ≤ bs.length ∧ y.p + skipL y.cm (List.drop y.p bs) = a + skipL false (List.drop a bs)) ∧
 bs.length - y.p < bs.length - x.p) ∧
 ((n != (10 : Int)) = false →
 ∃ (y : X30),
 ValsAre
 [AV.sl (nat_lit 1) (bytesL bs) Own.no,
 AV.int IntKind.i64 (IntKind.i64.wrap ((↑x.p : Int) + (1 : Int))), AV.bool false]
 [AV.sl (nat_lit 1) (bytesL bs) Own.no, AV.int IntKind.i64 (↑y.p : Int), AV.bool y.cm] ∧
 StIs { boxes := [], live := [] } { boxes := [], live := [] } ∧
 (y.p ≤ bs.length ∧ y.p + skipL y.cm (List.drop y.p bs) = a + skipL false (List.drop a bs)) ∧
 bs.length - y.p < bs.length - x.p)) ∧
 ((n == (35 : Int)) = false →
 RetIs (AV.int IntKind.i64 (↑x.p : Int)) []
 (AV.int IntKind.i64 (↑(a + skipL false (List.drop a bs)) : Int), []))))) ∧
 (decide ((↑x.p : Int) < (↑(bytesL bs).length : Int)) = false →
 RetIs (AV.int IntKind.i64 (↑x.p : Int)) [] (AV.int IntKind.i64 (↑(a + skipL false (List.drop a bs)) : Int), []))) ∧
        (x.cm = false →
 (decide ((↑x.p : Int) < (↑(bytesL bs).length : Int)) = true →
 ((0 : Int) ≤ (↑x.p : Int) ∧ (↑x.p : Int) < (↑(bytesL bs).length : Int)) ∧
 ∃ (n : Int),
 takeAt PP (nat_lit 5) (bytesL bs) (↑x.p : Int).toNat (nat_lit 0) = some (AV.int IntKind.u8 n) ∧
 ∃ (b : Bool),
 CallIs (some (AV.bool (decide (n = (9 : Int) ∨ n = (10 : Int) ∨ n = (13 : Int) ∨ n = (32 : Int))), [])) (AV.bool b) [] ∧
 (b = true →
 ((0 : Int) ≤ (↑x.p : Int) ∧ (↑x.p : Int) < (↑(bytesL bs).length : Int)) ∧
 ∃ (n : Int),
 takeAt PP (nat_lit 5) (bytesL bs) (↑x.p : Int).toNat (nat_lit 0) = some (AV.int IntKind.u8 n) ∧
 ((n != (10 : Int)) = true →
 ((0 : Int) ≤ (↑x.p : Int) ∧ (↑x.p : Int) < (↑(bytesL bs).length : Int)) ∧
 ∃ (n : Int),
 takeAt PP (nat_lit 5) (bytesL bs) (↑x.p : Int).toNat (nat_lit 0) = some (AV.int IntKind.u8 n) ∧
 ((n == (35 : Int)) = true →
 ∃ (y : X30),
 ValsAre
 [AV.sl (nat_lit 1) (bytesL bs) Own.no, AV.int IntKind.i64 (IntKind.i64.wrap ((↑x.p : Int) + (1 : Int))),
 AV.bool true]
 [AV.sl (nat_lit 1) (bytesL bs) Own.no, AV.int IntKind.i64 (↑y.p : Int), AV.bool y.cm] ∧
 StIs { boxes := [], live := [] } { boxes := [], live := [] } ∧
 (y.p ≤ bs.length ∧ y.p + skipL y.cm (List.drop y.p bs) = a + skipL false (List.drop a bs)) ∧
 bs.length - y.p < bs.length - x.p) ∧
 ((n == (35 : Int)) = false →
 ∃ (y : X30),
 ValsAre
 [AV.sl (nat_lit 1) (bytesL bs) Own.no, AV.int IntKind.i64 (IntKind.i64.wrap ((↑x.p : Int) + (1 : Int))),
 AV.bool false]
 [AV.sl (nat_lit 1) (bytesL bs) Own.no, AV.int IntKind.i64 (↑y.p : Int), AV.bool y.cm] ∧
 StIs { boxes := [], live := [] } { boxes := [], live := [] } ∧
 (y.p ≤ bs.length ∧ y.p + skipL y.cm (List.drop y.p bs) = a + skipL false (List.drop a bs)) ∧
 bs.length - y.p < bs.length - x.p)) ∧
 ((n != (10 : Int)) = false →
 ∃ (y : X30),
 ValsAre
 [AV.sl (nat_lit 1) (bytesL bs) Own.no, AV.int IntKind.i64 (IntKind.i64.wrap ((↑x.p : Int) + (1 : Int))),
 AV.bool false]
 [AV.sl (nat_lit 1) (bytesL bs) Own.no, AV.int IntKind.i64 (↑y.p : Int), AV.bool y.cm] ∧
 StIs { boxes := [], live := [] } { boxes := [], live := [] } ∧
 (y.p ≤ bs.length ∧ y.p + skipL y.cm (List.drop y.p bs) = a + skipL false (List.drop a bs)) ∧
 bs.length - y.p < bs.length - x.p)) ∧
 (b = false →
 ((0 : Int) ≤ (↑x.p : Int) ∧ (↑x.p : Int) < (↑(bytesL bs).length : Int)) ∧
 ∃ (n : Int),
 takeAt PP (nat_lit 5) (bytesL bs) (↑x.p : Int).toNat (nat_lit 0) = some (AV.int IntKind.u8 n) ∧
 ((n == (35 : Int)) = true →
 ((0 : Int) ≤ (↑x.p : Int) ∧ (↑x.p : Int) < (↑(bytesL bs).length : Int)) ∧
 ∃ (n : Int),
 takeAt PP (nat_lit 5) (bytesL bs) (↑x.p : Int).toNat (nat_lit 0) = some (AV.int IntKind.u8 n) ∧
 ((n != (10 : Int)) = true →
 ((0 : Int) ≤ (↑x.p : Int) ∧ (↑x.p : Int) < (↑(bytesL bs).length : Int)) ∧
 ∃ (n : Int),
 takeAt PP (nat_lit 5) (bytesL bs) (↑x.p : Int).toNat (nat_lit 0) = some (AV.int IntKind.u8 n) ∧
 ((n == (35 : Int)) = true →
 ∃ (y : X30),
 ValsAre
 [AV.sl (nat_lit 1) (bytesL bs) Own.no,
 AV.int IntKind.i64 (IntKind.i64.wrap ((↑x.p : Int) + (1 : Int))), AV.bool true]
 [AV.sl (nat_lit 1) (bytesL bs) Own.no, AV.int IntKind.i64 (↑y.p : Int), AV.bool y.cm] ∧
 StIs { boxes := [], live := [] } { boxes := [], live := [] } ∧
 (y.p ≤ bs.length ∧ y.p + skipL y.cm (List.drop y.p bs) = a + skipL false (List.drop a bs)) ∧
 bs.length - y.p < bs.length - x.p) ∧
 ((n == (35 : Int)) = false →
 ∃ (y : X30),
 ValsAre
 [AV.sl (nat_lit 1) (bytesL bs) Own.no,
 AV.int IntKind.i64 (IntKind.i64.wrap ((↑x.p : Int) + (1 : Int))), AV.bool false]
 [AV.sl (nat_lit 1) (bytesL bs) Own.no, AV.int IntKind.i64 (↑y.p : Int), AV.bool y.cm] ∧
 StIs { boxes := [], live := [] } { boxes := [], live := [] } ∧
 (y.p ≤ bs.length ∧ y.p + skipL y.cm (List.drop y.p bs) = a + skipL false (List.drop a bs)) ∧
 bs.length - y.p < bs.length - x.p)) ∧
 ((n != (10 : Int)) = false →
 ∃ (y : X30),
 ValsAre
 [AV.sl (nat_lit 1) (bytesL bs) Own.no, AV.int IntKind.i64 (IntKind.i64.wrap ((↑x.p : Int) + (1 : Int))),
 AV.bool false]
 [AV.sl (nat_lit 1) (bytesL bs) Own.no, AV.int IntKind.i64 (↑y.p : Int), AV.bool y.cm] ∧
 StIs { boxes := [], live := [] } { boxes := [], live := [] } ∧
 (y.p ≤ bs.length ∧ y.p + skipL y.cm (List.drop y.p bs) = a + skipL false (List.drop a bs)) ∧
 bs.length - y.p < bs.length - x.p)) ∧
 ((n == (35 : Int)) = false →
 RetIs (AV.int IntKind.i64 (↑x.p : Int)) [] (AV.int IntKind.i64 (↑(a + skipL false (List.drop a bs)) : Int), [])))) ∧
 (decide ((↑x.p : Int) < (↑(bytesL bs).length : Int)) = false →
 RetIs (AV.int IntKind.i64 (↑x.p : Int)) [] (AV.int IntKind.i64 (↑(a + skipL false (List.drop a bs)) : Int), [])))) := by kernel_rfl
theorem w43 (m : Int) (n : Int) : (pureW PP (G8 m) XR (tbl []) (itbl []) ⟨nA, nA⟩ [] 43 [.int .u8 n] (.bool (decide (n = 9 ∨ n = 10 ∨ n = 13 ∨ n = 32)), [])) =
(((n == (9 : Int)) = true → RetIs (AV.bool true) [] (AV.bool (decide (n = (9 : Int) ∨ n = (10 : Int) ∨ n = (13 : Int) ∨ n = (32 : Int))), [])) ∧
  ((n == (9 : Int)) = false →
    ((n == (10 : Int)) = true → RetIs (AV.bool true) [] (AV.bool (decide (n = (9 : Int) ∨ n = (10 : Int) ∨ n = (13 : Int) ∨ n = (32 : Int))), [])) ∧
      ((n == (10 : Int)) = false →
        ((n == (13 : Int)) = true → RetIs (AV.bool true) [] (AV.bool (decide (n = (9 : Int) ∨ n = (10 : Int) ∨ n = (13 : Int) ∨ n = (32 : Int))), [])) ∧
 ((n == (13 : Int)) = false →
 ((n == (32 : Int)) = true → RetIs (AV.bool true) [] (AV.bool (decide (n = (9 : Int) ∨ n = (10 : Int) ∨ n = (13 : Int) ∨ n = (32 : Int))), [])) ∧
 ((n == (32 : Int)) = false →
 RetIs (AV.bool false) [] (AV.bool (decide (n = (9 : Int) ∨ n = (10 : Int) ∨ n = (13 : Int) ∨ n = (32 : Int))), [])))))) := by kernel_rfl
theorem w47 (m : Int) (bs : List UInt8) (a : Nat) : (pureW PP (G8 m) XR (tbl []) (itbl []) ⟨nA, nA⟩ [] 47 [bytesA bs, .int .i64 a] (.int .i64 (signLen (bs.drop a)), [])) =
(((0 : Int) ≤ (↑a : Int) ∧ (↑a : Int) < (↑(bytesL bs).length : Int)) ∧
  ∃ (n : Int),
    takeAt PP (nat_lit 5) (bytesL bs) (↑a : Int).toNat (nat_lit 0) = some (AV.int IntKind.u8 n) ∧
      (decide (IntKind.i64.wrap ((↑a : Int) + (1 : Int)) < (↑(bytesL bs).length : Int)) = true →
 ((0 : Int) ≤ IntKind.i64.wrap ((↑a : Int) + (1 : Int)) ∧ IntKind.i64.wrap ((↑a : Int) + (1 : Int)) < (↑(bytesL bs).length : Int)) ∧
 ∃ (n_1 : Int),
 takeAt PP (nat_lit 5) (bytesL bs) (IntKind.i64.wrap ((↑a : Int) + (1 : Int))).toNat (nat_lit 0) = some (AV.int IntKind.u8 n_1) ∧
 ((n_1 == (61 : Int)) = true →
 ((n == (61 : Int)) = true → RetIs (AV.int IntKind.i64 (2 : Int)) [] (AV.int IntKind.i64 (signLen (List.drop a bs)), [])) ∧
 ((n == (61 : Int)) = false →
 ((n == (33 : Int)) = true → RetIs (AV.int IntKind.i64 (2 : Int)) [] (AV.int IntKind.i64 (signLen (List.drop a bs)), [])) ∧
 ((n == (33 : Int)) = false →
 ((n == (60 : Int)) = true → RetIs (AV.int IntKind.i64 (2 : Int)) [] (AV.int IntKind.i64 (signLen (List.drop a bs)), [])) ∧
 ((n == (60 : Int)) = false →
 ((n == (123 : Int)) = true → RetIs (AV.int IntKind.i64 (1 : Int)) [] (AV.int IntKind.i64 (signLen (List.drop a bs)), [])) ∧
 ((n == (123 : Int)) = false →
 ((n == (125 : Int)) = true → RetIs (AV.int IntKind.i64 (1 : Int)) [] (AV.int IntKind.i64 (signLen (List.drop a bs)), [])) ∧
 ((n == (125 : Int)) = false →
 ((n == (40 : Int)) = true →
 RetIs (AV.int IntKind.i64 (1 : Int)) [] (AV.int IntKind.i64 (signLen (List.drop a bs)), [])) ∧
 ((n == (40 : Int)) = false →
 ((n == (41 : Int)) = true →
 RetIs (AV.int IntKind.i64 (1 : Int)) [] (AV.int IntKind.i64 (signLen (List.drop a bs)), [])) ∧
 ((n == (41 : Int)) = false →
 ((n == (91 : Int)) = true →
 RetIs (AV.int IntKind.i64 (1 : Int)) [] (AV.int IntKind.i64 (signLen (List.drop a bs)), [])) ∧
 ((n == (91 : Int)) = false →
 ((n == (93 : Int)) = true →
 RetIs (AV.int IntKind.i64 (1 : Int)) [] (AV.int IntKind.i64 (signLen (List.drop a bs)), [])) ∧
 ((n == (93 : Int)) = false →
 ((n == (44 : Int)) = true →
 RetIs (AV.int IntKind.i64 (1 : Int)) [] (AV.int IntKind.i64 (signLen (List.drop a bs)), [])) ∧
 ((n == (44 : Int)) = false →
 ((n == (58 : Int)) = true →
 RetIs (AV.int IntKind.i64 (1 : Int)) [] (AV.int IntKind.i64 (signLen (List.drop a bs)), [])) ∧
 ((n == (58 : Int)) = false →
 ((n == (59 : Int)) = true →
 RetIs (AV.int IntKind.i64 (1 : Int)) []
 (AV.int IntKind.i64 (signLen (List.drop a bs)), [])) ∧
 ((n == (59 : Int)) = false →
 ((n == (61 : Int)) = true →
 RetIs (AV.int IntKind.i64 (1 : Int)) []
 (AV.int IntKind.i64 (signLen (List.drop a bs)), [])) ∧
 ((n == (61 : Int)) = false →
 ((n == (60 : Int)) = true →
 RetIs (AV.int IntKind.i64 (1 : Int)) []
 (AV.int IntKind.i64 (signLen (List.drop a bs)), [])) ∧
 ((n == (60 : Int)) = false →
 ((n == (43 : Int)) = true →
 RetIs (AV.int IntKind.i64 (1 : Int)) []
 (AV.int IntKind.i64 (signLen (List.drop a bs)), [])) ∧
 ((n == (43 : Int)) = false →
 ((n == (45 : Int)) = true →
 RetIs (AV.int IntKind.i64 (1 : Int)) []
 (AV.int IntKind.i64 (signLen (List.drop a bs)), [])) ∧
 ((n == (45 : Int)) = false →
 ((n == (42 : Int)) = true →
 RetIs (AV.int IntKind.i64 (1 : Int)) []
 (AV.int IntKind.i64 (signLen (List.drop a bs)), [])) ∧
 ((n == (42 : Int)) = false →
 ((n == (47 : Int)) = true →
 RetIs (AV.int IntKind.i64 (1 : Int)) []
 (AV.int IntKind.i64 (signLen (List.drop a bs)), [])) ∧
 ((n == (47 : Int)) = false →
 ((n == (94 : Int)) = true →
 RetIs (AV.int IntKind.i64 (1 : Int)) []
 (AV.int IntKind.i64 (signLen (List.drop a bs)), [])) ∧
 ((n == (94 : Int)) = false →
 ((n == (64 : Int)) = true →
 RetIs (AV.int IntKind.i64 (1 : Int)) []
 (AV.int IntKind.i64 (signLen (List.drop a bs)), [])) ∧
 ((n == (64 : Int)) = false →
 RetIs (AV.int IntKind.i64 (0 : Int)) []
 (AV.int IntKind.i64 (signLen (List.drop a bs)),
 [])))))))))))))))))))))) ∧
 ((n_1 == (61 : Int)) = false →
 ((n == (123 : Int)) = true → RetIs (AV.int IntKind.i64 (1 : Int)) [] (AV.int IntKind.i64 (signLen (List.drop a bs)), [])) ∧
 ((n == (123 : Int)) = false →
 ((n == (125 : Int)) = true → RetIs (AV.int IntKind.i64 (1 : Int)) [] (AV.int IntKind.i64 (signLen (List.drop a bs)), [])) ∧
 ((n == (125 : Int)) = false →
 ((n == (40 : Int)) = true → RetIs (AV.int IntKind.i64 (1 : Int)) [] (AV.int IntKind.i64 (signLen (List.drop a bs)), [])) ∧
 ((n == (40 : Int)) = false →
 ((n == (41 : Int)) = true → RetIs (AV.int IntKind.i64 (1 : Int)) [] (AV.int IntKind.i64 (signLen (List.drop a bs)), [])) ∧
 ((n == (41 : Int)) = false →
 ((n == (91 : Int)) = true → RetIs (AV.int IntKind.i64 (1 : Int)) [] (AV.int IntKind.i64 (signLen (List.drop a bs)), [])) ∧
 ((n == (91 : Int)) = false →
 ((n == (93 : Int)) = true →
 RetIs (AV.int IntKind.i64 (1 : Int)) [] (AV.int IntKind.i64 (signLen (List.drop a bs)), [])) ∧
 ((n == (93 : Int)) = false →
 ((n == (44 : Int)) = true →
 RetIs (AV.int IntKind.i64 (1 : Int)) [] (AV.int IntKind.i64 (signLen (List.drop a bs)), [])) ∧
 ((n == (44 : Int)) = false →
 ((n == (58 : Int)) = true →
 RetIs (AV.int IntKind.i64 (1 : Int)) [] (AV.int IntKind.i64 (signLen (List.drop a bs)), [])) ∧
 ((n == (58 : Int)) = false →
 ((n == (59 : Int)) = true →
 RetIs (AV.int IntKind.i64 (1 : Int)) [] (AV.int IntKind.i64 (signLen (List.drop a bs)), [])) ∧
 ((n == (59 : Int)) = false →
 ((n == (61 : Int)) = true →
 RetIs (AV.int IntKind.i64 (1 : Int)) [] (AV.int IntKind.i64 (signLen (List.drop a bs)), [])) ∧
 ((n == (61 : Int)) = false →
 ((n == (60 : Int)) = true →
 RetIs (AV.int IntKind.i64 (1 : Int)) [] (AV.int IntKind.i64 (signLen (List.drop a bs)), [])) ∧
 ((n == (60 : Int)) = false →
 ((n == (43 : Int)) = true →
 RetIs (AV.int IntKind.i64 (1 : Int)) []
 (AV.int IntKind.i64 (signLen (List.drop a bs)), [])) ∧
 ((n == (43 : Int)) = false →
 ((n == (45 : Int)) = true →
 RetIs (AV.int IntKind.i64 (1 : Int)) []
 (AV.int IntKind.i64 (signLen (List.drop a bs)), [])) ∧
 ((n == (45 : Int)) = false →
 ((n == (42 : Int)) = true →
 RetIs (AV.int IntKind.i64 (1 : Int)) []
 (AV.int IntKind.i64 (signLen (List.drop a bs)), [])) ∧
 ((n == (42 : Int)) = false →
 ((n == (47 : Int)) = true →
 RetIs (AV.int IntKind.i64 (1 : Int)) []
 (AV.int IntKind.i64 (signLen (List.drop a bs)), [])) ∧
 ((n == (47 : Int)) = false →
 ((n == (94 : Int)) = true →
 RetIs (AV.int IntKind.i64 (1 : Int)) []
 (AV.int IntKind.i64 (signLen (List.drop a bs)), [])) ∧
 ((n == (94 : Int)) = false →
 ((n == (64 : Int)) = true →
 RetIs (AV.int IntKind.i64 (1 : Int)) []
 (AV.int IntKind.i64 (signLen (List.drop a bs)), [])) ∧
 ((n == (64 : Int)) = false →
 RetIs (AV.int IntKind.i64 (0 : Int)) []
 (AV.int IntKind.i64 (signLen (List.drop a bs)),
 [])))))))))))))))))))) ∧
        (decide (IntKind.i64.wrap ((↑a : Int) + (1 : Int)) < (↑(bytesL bs).length : Int)) = false →
 ((n == (123 : Int)) = true → RetIs (AV.int IntKind.i64 (1 : Int)) [] (AV.int IntKind.i64 (signLen (List.drop a bs)), [])) ∧
 ((n == (123 : Int)) = false →
 ((n == (125 : Int)) = true → RetIs (AV.int IntKind.i64 (1 : Int)) [] (AV.int IntKind.i64 (signLen (List.drop a bs)), [])) ∧
 ((n == (125 : Int)) = false →
 ((n == (40 : Int)) = true → RetIs (AV.int IntKind.i64 (1 : Int)) [] (AV.int IntKind.i64 (signLen (List.drop a bs)), [])) ∧
 ((n == (40 : Int)) = false →
 ((n == (41 : Int)) = true → RetIs (AV.int IntKind.i64 (1 : Int)) [] (AV.int IntKind.i64 (signLen (List.drop a bs)), [])) ∧
 ((n == (41 : Int)) = false →
 ((n == (91 : Int)) = true → RetIs (AV.int IntKind.i64 (1 : Int)) [] (AV.int IntKind.i64 (signLen (List.drop a bs)), [])) ∧
 ((n == (91 : Int)) = false →
 ((n == (93 : Int)) = true → RetIs (AV.int IntKind.i64 (1 : Int)) [] (AV.int IntKind.i64 (signLen (List.drop a bs)), [])) ∧
 ((n == (93 : Int)) = false →
 ((n == (44 : Int)) = true → RetIs (AV.int IntKind.i64 (1 : Int)) [] (AV.int IntKind.i64 (signLen (List.drop a bs)), [])) ∧
 ((n == (44 : Int)) = false →
 ((n == (58 : Int)) = true → RetIs (AV.int IntKind.i64 (1 : Int)) [] (AV.int IntKind.i64 (signLen (List.drop a bs)), [])) ∧
 ((n == (58 : Int)) = false →
 ((n == (59 : Int)) = true →
 RetIs (AV.int IntKind.i64 (1 : Int)) [] (AV.int IntKind.i64 (signLen (List.drop a bs)), [])) ∧
 ((n == (59 : Int)) = false →
 ((n == (61 : Int)) = true →
 RetIs (AV.int IntKind.i64 (1 : Int)) [] (AV.int IntKind.i64 (signLen (List.drop a bs)), [])) ∧
 ((n == (61 : Int)) = false →
 ((n == (60 : Int)) = true →
 RetIs (AV.int IntKind.i64 (1 : Int)) [] (AV.int IntKind.i64 (signLen (List.drop a bs)), [])) ∧
 ((n == (60 : Int)) = false →
 ((n == (43 : Int)) = true →
 RetIs (AV.int IntKind.i64 (1 : Int)) [] (AV.int IntKind.i64 (signLen (List.drop a bs)), [])) ∧
 ((n == (43 : Int)) = false →
 ((n == (45 : Int)) = true →
 RetIs (AV.int IntKind.i64 (1 : Int)) [] (AV.int IntKind.i64 (signLen (List.drop a bs)), [])) ∧
 ((n == (45 : Int)) = false →
 ((n == (42 : Int)) = true →
 RetIs (AV.int IntKind.i64 (1 : Int)) [] (AV.int IntKind.i64 (signLen (List.drop a bs)), [])) ∧
 ((n == (42 : Int)) = false →
 ((n == (47 : Int)) = true →
 RetIs (AV.int IntKind.i64 (1 : Int)) []
 (AV.int IntKind.i64 (signLen (List.drop a bs)), [])) ∧
 ((n == (47 : Int)) = false →
 ((n == (94 : Int)) = true →
 RetIs (AV.int IntKind.i64 (1 : Int)) []
 (AV.int IntKind.i64 (signLen (List.drop a bs)), [])) ∧
 ((n == (94 : Int)) = false →
 ((n == (64 : Int)) = true →
 RetIs (AV.int IntKind.i64 (1 : Int)) []
 (AV.int IntKind.i64 (signLen (List.drop a bs)), [])) ∧
 ((n == (64 : Int)) = false →
 RetIs (AV.int IntKind.i64 (0 : Int)) []
 (AV.int IntKind.i64 (signLen (List.drop a bs)), [])))))))))))))))))))) := by kernel_rfl
theorem w45 (m : Int) (bs : List UInt8) (a : Nat) : (pureW PP (G8 m) XR (tbl [(61, s61), (62, s51), (63, s63)]) (itbl []) ⟨nA, nA⟩ [] 45 [bytesA bs, .int .i64 a] (tokR (bs.drop a) a, [])) =
(∃ (n : Int),
  CallIs (tbl [(nat_lit 61, s61), (nat_lit 62, s51), (nat_lit 63, s63)] (nat_lit 61) [AV.sl (nat_lit 1) (bytesL bs) Own.no, AV.int IntKind.i64 (↑a : Int)])
      (AV.int IntKind.i64 n) [] ∧
    (decide (IntKind.i64.wrap ((↑a : Int) + n) < (↑(bytesL bs).length : Int)) = true →
        ((0 : Int) ≤ IntKind.i64.wrap ((↑a : Int) + n) ∧ IntKind.i64.wrap ((↑a : Int) + n) < (↑(bytesL bs).length : Int)) ∧
 ∃ (n_1 : Int),
 takeAt PP (nat_lit 5) (bytesL bs) (IntKind.i64.wrap ((↑a : Int) + n)).toNat (nat_lit 0) = some (AV.int IntKind.u8 n_1) ∧
 ((n_1 == (46 : Int)) = true →
 ∃ (n_2 : Int),
 CallIs
 (tbl [(nat_lit 61, s61), (nat_lit 62, s51), (nat_lit 63, s63)] (nat_lit 61)
 [AV.sl (nat_lit 1) (bytesL bs) Own.no, AV.int IntKind.i64 (IntKind.i64.wrap (IntKind.i64.wrap ((↑a : Int) + n) + (1 : Int)))])
 (AV.int IntKind.i64 n_2) [] ∧
 (decide (n_2 > (0 : Int)) = true →
 (0 : Int) ≤ (↑a : Int) ∧
 (0 : Int) ≤ IntKind.i64.wrap (IntKind.i64.wrap (IntKind.i64.wrap ((↑a : Int) + n) + (1 : Int)) + n_2) ∧
 ((↑a : Int).toNat ≤ (IntKind.i64.wrap (IntKind.i64.wrap (IntKind.i64.wrap ((↑a : Int) + n) + (1 : Int)) + n_2)).toNat ∧
 (IntKind.i64.wrap (IntKind.i64.wrap (IntKind.i64.wrap ((↑a : Int) + n) + (1 : Int)) + n_2)).toNat ≤ (bytesL bs).length) ∧
 (nat_lit 1 = nat_lit 1 ∨ bytesL bs = []) ∧
 (nat_lit 1 = nat_lit 1 ∨
 List.drop (↑a : Int).toNat
 (List.take (IntKind.i64.wrap (IntKind.i64.wrap (IntKind.i64.wrap ((↑a : Int) + n) + (1 : Int)) + n_2)).toNat
 (bytesL bs)) =
 []) ∧
 ∃ (l : List UInt8),
 List.mapM byteOf
 (List.drop (↑a : Int).toNat
 (List.take (IntKind.i64.wrap (IntKind.i64.wrap (IntKind.i64.wrap ((↑a : Int) + n) + (1 : Int)) + n_2)).toNat
 (bytesL bs))) =
 some l ∧
 ∃ (n : Int),
 ∃ (n_3 : Int),
 CallIs (tbl [(nat_lit 61, s61), (nat_lit 62, s51), (nat_lit 63, s63)] (nat_lit 62) [AV.str l])
 (AV.tup [AV.int IntKind.i64 n, AV.int IntKind.i64 n_3]) [] ∧
 RetIs
 (AV.tup
 [AV.agg [AV.int IntKind.i64 (3 : Int), AV.str l, AV.int IntKind.i64 (↑a : Int)],
 AV.int IntKind.i64 (↑l.length : Int), AV.int IntKind.i64 n_3])
 []
 (AV.tup
 [AV.agg
 [AV.int IntKind.i64 (tokTk (List.drop a bs) a).kind, AV.str (tokTk (List.drop a bs) a).text,
 AV.int IntKind.i64 (↑(tokTk (List.drop a bs) a).at_ : Int)],
 AV.int IntKind.i64 (tokN (List.drop a bs)), AV.int IntKind.i64 (piece (List.drop a bs)).snd.snd],
 [])) ∧
 (decide (n_2 > (0 : Int)) = false →
 (0 : Int) ≤ (↑a : Int) ∧
 (0 : Int) ≤ IntKind.i64.wrap ((↑a : Int) + n) ∧
 ((↑a : Int).toNat ≤ (IntKind.i64.wrap ((↑a : Int) + n)).toNat ∧ (IntKind.i64.wrap ((↑a : Int) + n)).toNat ≤ (bytesL bs).length) ∧
 (nat_lit 1 = nat_lit 1 ∨ bytesL bs = []) ∧
 (nat_lit 1 = nat_lit 1 ∨ List.drop (↑a : Int).toNat (List.take (IntKind.i64.wrap ((↑a : Int) + n)).toNat (bytesL bs)) = []) ∧
 ∃ (l : List UInt8),
 List.mapM byteOf (List.drop (↑a : Int).toNat (List.take (IntKind.i64.wrap ((↑a : Int) + n)).toNat (bytesL bs))) = some l ∧
 ∃ (b : Bool),
 CallIs (tbl [(nat_lit 61, s61), (nat_lit 62, s51), (nat_lit 63, s63)] (nat_lit 63) [AV.str l]) (AV.bool b) [] ∧
 (b = true →
 RetIs
 (AV.tup
 [AV.agg [AV.int IntKind.i64 (0 : Int), AV.str [], AV.int IntKind.i64 (0 : Int)], AV.int IntKind.i64 n,
 AV.int IntKind.i64 (2 : Int)])
 []
 (AV.tup
 [AV.agg
 [AV.int IntKind.i64 (tokTk (List.drop a bs) a).kind, AV.str (tokTk (List.drop a bs) a).text,
 AV.int IntKind.i64 (↑(tokTk (List.drop a bs) a).at_ : Int)],
 AV.int IntKind.i64 (tokN (List.drop a bs)), AV.int IntKind.i64 (piece (List.drop a bs)).snd.snd],
 [])) ∧
 (b = false →
 RetIs
 (AV.tup
 [AV.agg [AV.int IntKind.i64 (2 : Int), AV.str l, AV.int IntKind.i64 (↑a : Int)], AV.int IntKind.i64 n,
 AV.int IntKind.i64 (0 : Int)])
 []
 (AV.tup
 [AV.agg
 [AV.int IntKind.i64 (tokTk (List.drop a bs) a).kind, AV.str (tokTk (List.drop a bs) a).text,
 AV.int IntKind.i64 (↑(tokTk (List.drop a bs) a).at_ : Int)],
 AV.int IntKind.i64 (tokN (List.drop a bs)), AV.int IntKind.i64 (piece (List.drop a bs)).snd.snd],
 [])))) ∧
 ((n_1 == (46 : Int)) = false →
 (false = true →
 (0 : Int) ≤ (↑a : Int) ∧
 (0 : Int) ≤ IntKind.i64.wrap (IntKind.i64.wrap (IntKind.i64.wrap ((↑a : Int) + n) + (1 : Int)) + (0 : Int)) ∧
 ((↑a : Int).toNat ≤ (IntKind.i64.wrap (IntKind.i64.wrap (IntKind.i64.wrap ((↑a : Int) + n) + (1 : Int)) + (0 : Int))).toNat ∧
 (IntKind.i64.wrap (IntKind.i64.wrap (IntKind.i64.wrap ((↑a : Int) + n) + (1 : Int)) + (0 : Int))).toNat ≤ (bytesL bs).length) ∧
 (nat_lit 1 = nat_lit 1 ∨ bytesL bs = []) ∧
 (nat_lit 1 = nat_lit 1 ∨
 List.drop (↑a : Int).toNat
 (List.take (IntKind.i64.wrap (IntKind.i64.wrap (IntKind.i64.wrap ((↑a : Int) + n) + (1 : Int)) + (0 : Int))).toNat
 (bytesL bs)) =
 []) ∧
 ∃ (l : List UInt8),
 List.mapM byteOf
 (List.drop (↑a : Int).toNat
 (List.take (IntKind.i64.wrap (IntKind.i64.wrap (IntKind.i64.wrap ((↑a : Int) + n) + (1 : Int)) + (0 : Int))).toNat
 (bytesL bs))) =
 some l ∧
 ∃ (n : Int),
 ∃ (n_2 : Int),
 CallIs (tbl [(nat_lit 61, s61), (nat_lit 62, s51), (nat_lit 63, s63)] (nat_lit 62) [AV.str l])
 (AV.tup [AV.int IntKind.i64 n, AV.int IntKind.i64 n_2]) [] ∧
 RetIs
 (AV.tup
 [AV.agg [AV.int IntKind.i64 (3 : Int), AV.str l, AV.int IntKind.i64 (↑a : Int)],
 AV.int IntKind.i64 (↑l.length : Int), AV.int IntKind.i64 n_2])
 []
 (AV.tup
 [AV.agg
 [AV.int IntKind.i64 (tokTk (List.drop a bs) a).kind, AV.str (tokTk (List.drop a bs) a).text,
 AV.int IntKind.i64 (↑(tokTk (List.drop a bs) a).at_ : Int)],
 AV.int IntKind.i64 (tokN (List.drop a bs)), AV.int IntKind.i64 (piece (List.drop a bs)).snd.snd],
 [])) ∧
 (false = false →
 (0 : Int) ≤ (↑a : Int) ∧
 (0 : Int) ≤ IntKind.i64.wrap ((↑a : Int) + n) ∧
 ((↑a : Int).toNat ≤ (IntKind.i64.wrap ((↑a : Int) + n)).toNat ∧ (IntKind.i64.wrap ((↑a : Int) + n)).toNat ≤ (bytesL bs).length) ∧
 (nat_lit 1 = nat_lit 1 ∨ bytesL bs = []) ∧
 (nat_lit 1 = nat_lit 1 ∨ List.drop (↑a : Int).toNat (List.take (IntKind.i64.wrap ((↑a : Int) + n)).toNat (bytesL bs)) = []) ∧
 ∃ (l : List UInt8),
 List.mapM byteOf (List.drop (↑a : Int).toNat (List.take (IntKind.i64.wrap ((↑a : Int) + n)).toNat (bytesL bs))) = some l ∧
 ∃ (b : Bool),
 CallIs (tbl [(nat_lit 61, s61), (nat_lit 62, s51), (nat_lit 63, s63)] (nat_lit 63) [AV.str l]) (AV.bool b) [] ∧
 (b = true →
 RetIs
 (AV.tup
 [AV.agg [AV.int IntKind.i64 (0 : Int), AV.str [], AV.int IntKind.i64 (0 : Int)], AV.int IntKind.i64 n,
 AV.int IntKind.i64 (2 : Int)])
 []
 (AV.tup
 [AV.agg
 [AV.int IntKind.i64 (tokTk (List.drop a bs) a).kind, AV.str (tokTk (List.drop a bs) a).text,
 AV.int IntKind.i64 (↑(tokTk (List.drop a bs) a).at_ : Int)],
 AV.int IntKind.i64 (tokN (List.drop a bs)), AV.int IntKind.i64 (piece (List.drop a bs)).snd.snd],
 [])) ∧
 (b = false →
 RetIs
 (AV.tup
 [AV.agg [AV.int IntKind.i64 (2 : Int), AV.str l, AV.int IntKind.i64 (↑a : Int)], AV.int IntKind.i64 n,
 AV.int IntKind.i64 (0 : Int)])
 []
 (AV.tup
 [AV.agg
 [AV.int IntKind.i64 (tokTk (List.drop a bs) a).kind, AV.str (tokTk (List.drop a bs) a).text,
 AV.int IntKind.i64 (↑(tokTk (List.drop a bs) a).at_ : Int)],
 AV.int IntKind.i64 (tokN (List.drop a bs)), AV.int IntKind.i64 (piece (List.drop a bs)).snd.snd],
 []))))) ∧
      (decide (IntKind.i64.wrap ((↑a : Int) + n) < (↑(bytesL bs).length : Int)) = false →
        (false = true →
 (0 : Int) ≤ (↑a : Int) ∧
 (0 : Int) ≤ IntKind.i64.wrap (IntKind.i64.wrap (IntKind.i64.wrap ((↑a : Int) + n) + (1 : Int)) + (0 : Int)) ∧
 ((↑a : Int).toNat ≤ (IntKind.i64.wrap (IntKind.i64.wrap (IntKind.i64.wrap ((↑a : Int) + n) + (1 : Int)) + (0 : Int))).toNat ∧
 (IntKind.i64.wrap (IntKind.i64.wrap (IntKind.i64.wrap ((↑a : Int) + n) + (1 : Int)) + (0 : Int))).toNat ≤ (bytesL bs).length) ∧
 (nat_lit 1 = nat_lit 1 ∨ bytesL bs = []) ∧
 (nat_lit 1 = nat_lit 1 ∨
 List.drop (↑a : Int).toNat
 (List.take (IntKind.i64.wrap (IntKind.i64.wrap (IntKind.i64.wrap ((↑a : Int) + n) + (1 : Int)) + (0 : Int))).toNat (bytesL bs)) =
 []) ∧
 ∃ (l : List UInt8),
 List.mapM byteOf
 (List.drop (↑a : Int).toNat
 (List.take (IntKind.i64.wrap (IntKind.i64.wrap (IntKind.i64.wrap ((↑a : Int) + n) + (1 : Int)) + (0 : Int))).toNat
 (bytesL bs))) =
 some l ∧
 ∃ (n : Int),
 ∃ (n_1 : Int),
 CallIs (tbl [(nat_lit 61, s61), (nat_lit 62, s51), (nat_lit 63, s63)] (nat_lit 62) [AV.str l])
 (AV.tup [AV.int IntKind.i64 n, AV.int IntKind.i64 n_1]) [] ∧
 RetIs
 (AV.tup
 [AV.agg [AV.int IntKind.i64 (3 : Int), AV.str l, AV.int IntKind.i64 (↑a : Int)], AV.int IntKind.i64 (↑l.length : Int),
 AV.int IntKind.i64 n_1])
 []
 (AV.tup
 [AV.agg
 [AV.int IntKind.i64 (tokTk (List.drop a bs) a).kind, AV.str (tokTk (List.drop a bs) a).text,
 AV.int IntKind.i64 (↑(tokTk (List.drop a bs) a).at_ : Int)],
 AV.int IntKind.i64 (tokN (List.drop a bs)), AV.int IntKind.i64 (piece (List.drop a bs)).snd.snd],
 [])) ∧
 (false = false →
 (0 : Int) ≤ (↑a : Int) ∧
 (0 : Int) ≤ IntKind.i64.wrap ((↑a : Int) + n) ∧
 ((↑a : Int).toNat ≤ (IntKind.i64.wrap ((↑a : Int) + n)).toNat ∧ (IntKind.i64.wrap ((↑a : Int) + n)).toNat ≤ (bytesL bs).length) ∧
 (nat_lit 1 = nat_lit 1 ∨ bytesL bs = []) ∧
 (nat_lit 1 = nat_lit 1 ∨ List.drop (↑a : Int).toNat (List.take (IntKind.i64.wrap ((↑a : Int) + n)).toNat (bytesL bs)) = []) ∧
 ∃ (l : List UInt8),
 List.mapM byteOf (List.drop (↑a : Int).toNat (List.take (IntKind.i64.wrap ((↑a : Int) + n)).toNat (bytesL bs))) = some l ∧
 ∃ (b : Bool),
 CallIs (tbl [(nat_lit 61, s61), (nat_lit 62, s51), (nat_lit 63, s63)] (nat_lit 63) [AV.str l]) (AV.bool b) [] ∧
 (b = true →
 RetIs
 (AV.tup
 [AV.agg [AV.int IntKind.i64 (0 : Int), AV.str [], AV.int IntKind.i64 (0 : Int)], AV.int IntKind.i64 n,
 AV.int IntKind.i64 (2 : Int)])
 []
 (AV.tup
 [AV.agg
 [AV.int IntKind.i64 (tokTk (List.drop a bs) a).kind, AV.str (tokTk (List.drop a bs) a).text,
 AV.int IntKind.i64 (↑(tokTk (List.drop a bs) a).at_ : Int)],
 AV.int IntKind.i64 (tokN (List.drop a bs)), AV.int IntKind.i64 (piece (List.drop a bs)).snd.snd],
 [])) ∧
 (b = false →
 RetIs
 (AV.tup
 [AV.agg [AV.int IntKind.i64 (2 : Int), AV.str l, AV.int IntKind.i64 (↑a : Int)], AV.int IntKind.i64 n,
 AV.int IntKind.i64 (0 : Int)])
 []
 (AV.tup
 [AV.agg
 [AV.int IntKind.i64 (tokTk (List.drop a bs) a).kind, AV.str (tokTk (List.drop a bs) a).text,
 AV.int IntKind.i64 (↑(tokTk (List.drop a bs) a).at_ : Int)],
 AV.int IntKind.i64 (tokN (List.drop a bs)), AV.int IntKind.i64 (piece (List.drop a bs)).snd.snd],
 []))))) := by kernel_rfl
theorem w46 (m : Int) (bs : List UInt8) (a : Nat) : (pureW PP (G8 m) XR (tbl []) (itbl []) (a46 bs a) [] 46 [bytesA bs, .int .i64 a] (tokR (bs.drop a) a, [])) =
(((∃ (y : Nat),
      ValsAre [AV.sl (nat_lit 1) (bytesL bs) Own.no, AV.int IntKind.i64 (↑a : Int), AV.ptr (nat_lit 0) (nat_lit 0), AV.int IntKind.i64 (1 : Int)]
 [AV.sl (nat_lit 1) (bytesL bs) Own.no, AV.int IntKind.i64 (↑a : Int), AV.ptr (nat_lit 0) (nat_lit 0), AV.int IntKind.i64 (↑(nat_lit 1 + y) : Int)] ∧
        StIs { boxes := [some [AV.int IntKind.i64 (0 : Int), AV.str [], AV.int IntKind.i64 (0 : Int)]], live := [] }
 { boxes := [some [AV.int IntKind.i64 (0 : Int), AV.str [], AV.int IntKind.i64 (0 : Int)]], live := [] } ∧
 y ≤ (List.takeWhile lineB (List.drop (a + (1 : Nat)) bs)).length ∧ True) ∧
    ∀ (x : Nat),
      x ≤ (List.takeWhile lineB (List.drop (a + (1 : Nat)) bs)).length →
        (decide (IntKind.i64.wrap ((↑a : Int) + (↑(nat_lit 1 + x) : Int)) < (↑(bytesL bs).length : Int)) = true →
 ((0 : Int) ≤ IntKind.i64.wrap ((↑a : Int) + (↑(nat_lit 1 + x) : Int)) ∧
 IntKind.i64.wrap ((↑a : Int) + (↑(nat_lit 1 + x) : Int)) < (↑(bytesL bs).length : Int)) ∧
 ∃ (n : Int),
 takeAt PP (nat_lit 5) (bytesL bs) (IntKind.i64.wrap ((↑a : Int) + (↑(nat_lit 1 + x) : Int))).toNat (nat_lit 0) = some (AV.int IntKind.u8 n) ∧
 ((n != (34 : Int)) = true →
 ((0 : Int) ≤ IntKind.i64.wrap ((↑a : Int) + (↑(nat_lit 1 + x) : Int)) ∧
 IntKind.i64.wrap ((↑a : Int) + (↑(nat_lit 1 + x) : Int)) < (↑(bytesL bs).length : Int)) ∧
 ∃ (n : Int),
 takeAt PP (nat_lit 5) (bytesL bs) (IntKind.i64.wrap ((↑a : Int) + (↑(nat_lit 1 + x) : Int))).toNat (nat_lit 0) =
 some (AV.int IntKind.u8 n) ∧
 ((n != (10 : Int)) = true →
 ∃ (y : Nat),
 ValsAre
 [AV.sl (nat_lit 1) (bytesL bs) Own.no, AV.int IntKind.i64 (↑a : Int), AV.ptr (nat_lit 0) (nat_lit 0),
 AV.int IntKind.i64 (IntKind.i64.wrap ((↑(nat_lit 1 + x) : Int) + (1 : Int)))]
 [AV.sl (nat_lit 1) (bytesL bs) Own.no, AV.int IntKind.i64 (↑a : Int), AV.ptr (nat_lit 0) (nat_lit 0),
 AV.int IntKind.i64 (↑(nat_lit 1 + y) : Int)] ∧
 StIs { boxes := [some [AV.int IntKind.i64 (0 : Int), AV.str [], AV.int IntKind.i64 (0 : Int)]], live := [] }
 { boxes := [some [AV.int IntKind.i64 (0 : Int), AV.str [], AV.int IntKind.i64 (0 : Int)]], live := [] } ∧
 y ≤ (List.takeWhile lineB (List.drop (a + (1 : Nat)) bs)).length ∧ bs.length - y < bs.length - x) ∧
 ((n != (10 : Int)) = false →
 ∃ (_y : Unit),
 ValsAre
 [AV.sl (nat_lit 1) (bytesL bs) Own.no, AV.int IntKind.i64 (↑a : Int), AV.ptr (nat_lit 0) (nat_lit 0),
 AV.int IntKind.i64 (↑(nat_lit 1 + x) : Int)]
 [AV.sl (nat_lit 1) (bytesL bs) Own.no, AV.int IntKind.i64 (↑a : Int), AV.ptr (nat_lit 0) (nat_lit 0),
 AV.int IntKind.i64 (↑(nat_lit 1 + (List.takeWhile lineB (List.drop (a + nat_lit 1) bs)).length) : Int)] ∧
 StIs { boxes := [some [AV.int IntKind.i64 (0 : Int), AV.str [], AV.int IntKind.i64 (0 : Int)]], live := [] }
 { boxes := [some [AV.int IntKind.i64 (0 : Int), AV.str [], AV.int IntKind.i64 (0 : Int)]], live := [] } ∧
 True ∧ True)) ∧
 ((n != (34 : Int)) = false →
 ∃ (_y : Unit),
 ValsAre
 [AV.sl (nat_lit 1) (bytesL bs) Own.no, AV.int IntKind.i64 (↑a : Int), AV.ptr (nat_lit 0) (nat_lit 0),
 AV.int IntKind.i64 (↑(nat_lit 1 + x) : Int)]
 [AV.sl (nat_lit 1) (bytesL bs) Own.no, AV.int IntKind.i64 (↑a : Int), AV.ptr (nat_lit 0) (nat_lit 0),
 AV.int IntKind.i64 (↑(nat_lit 1 + (List.takeWhile lineB (List.drop (a + nat_lit 1) bs)).length) : Int)] ∧
 StIs { boxes := [some [AV.int IntKind.i64 (0 : Int), AV.str [], AV.int IntKind.i64 (0 : Int)]], live := [] }
 { boxes := [some [AV.int IntKind.i64 (0 : Int), AV.str [], AV.int IntKind.i64 (0 : Int)]], live := [] } ∧
 True ∧ True)) ∧
 (decide (IntKind.i64.wrap ((↑a : Int) + (↑(nat_lit 1 + x) : Int)) < (↑(bytesL bs).length : Int)) = false →
 ∃ (_y : Unit),
 ValsAre
 [AV.sl (nat_lit 1) (bytesL bs) Own.no, AV.int IntKind.i64 (↑a : Int), AV.ptr (nat_lit 0) (nat_lit 0),
 AV.int IntKind.i64 (↑(nat_lit 1 + x) : Int)]
 [AV.sl (nat_lit 1) (bytesL bs) Own.no, AV.int IntKind.i64 (↑a : Int), AV.ptr (nat_lit 0) (nat_lit 0),
 AV.int IntKind.i64 (↑(nat_lit 1 + (List.takeWhile lineB (List.drop (a + nat_lit 1) bs)).length) : Int)] ∧
 StIs { boxes := [some [AV.int IntKind.i64 (0 : Int), AV.str [], AV.int IntKind.i64 (0 : Int)]], live := [] }
 { boxes := [some [AV.int IntKind.i64 (0 : Int), AV.str [], AV.int IntKind.i64 (0 : Int)]], live := [] } ∧
 True ∧ True)) ∧
  ∀ (_x : Unit),
    True →
      True →
        (((IntKind.i64.wrap ((↑a : Int) + (↑(nat_lit 1 + (List.takeWhile lineB (List.drop (a + nat_lit 1) bs)).length) : Int)) == (↑(bytesL bs).length : Int)) =
 true →
 RetIs
 (AV.tup
 [AV.agg [AV.int IntKind.i64 (0 : Int), AV.str [], AV.int IntKind.i64 (0 : Int)], AV.int IntKind.i64 (0 : Int), AV.int IntKind.i64 (80 : Int)])
 []
 (AV.tup
 [AV.agg
 [AV.int IntKind.i64 (tokTk (List.drop a bs) a).kind, AV.str (tokTk (List.drop a bs) a).text,
 AV.int IntKind.i64 (↑(tokTk (List.drop a bs) a).at_ : Int)],
 AV.int IntKind.i64 (tokN (List.drop a bs)), AV.int IntKind.i64 (piece (List.drop a bs)).snd.snd],
 [])) ∧
 ((IntKind.i64.wrap ((↑a : Int) + (↑(nat_lit 1 + (List.takeWhile lineB (List.drop (a + nat_lit 1) bs)).length) : Int)) ==
 (↑(bytesL bs).length : Int)) =
 false →
 ((0 : Int) ≤ IntKind.i64.wrap ((↑a : Int) + (↑(nat_lit 1 + (List.takeWhile lineB (List.drop (a + nat_lit 1) bs)).length) : Int)) ∧
 IntKind.i64.wrap ((↑a : Int) + (↑(nat_lit 1 + (List.takeWhile lineB (List.drop (a + nat_lit 1) bs)).length) : Int)) <
 (↑(bytesL bs).length : Int)) ∧
 ∃ (n : Int),
 takeAt PP (nat_lit 5) (bytesL bs)
 (IntKind.i64.wrap ((↑a : Int) + (↑(nat_lit 1 + (List.takeWhile lineB (List.drop (a + nat_lit 1) bs)).length) : Int))).toNat
 (nat_lit 0) =
 some (AV.int IntKind.u8 n) ∧
 ((n == (10 : Int)) = true →
 RetIs
 (AV.tup
 [AV.agg [AV.int IntKind.i64 (0 : Int), AV.str [], AV.int IntKind.i64 (0 : Int)], AV.int IntKind.i64 (0 : Int),
 AV.int IntKind.i64 (80 : Int)])
 []
 (AV.tup
 [AV.agg
 [AV.int IntKind.i64 (tokTk (List.drop a bs) a).kind, AV.str (tokTk (List.drop a bs) a).text,
 AV.int IntKind.i64 (↑(tokTk (List.drop a bs) a).at_ : Int)],
 AV.int IntKind.i64 (tokN (List.drop a bs)), AV.int IntKind.i64 (piece (List.drop a bs)).snd.snd],
 [])) ∧
 ((n == (10 : Int)) = false →
 ∃ (_y : Unit),
 ValsAre
 [AV.sl (nat_lit 1) (bytesL bs) Own.no, AV.int IntKind.i64 (↑a : Int), AV.ptr (nat_lit 0) (nat_lit 0),
 AV.int IntKind.i64 (↑(nat_lit 1 + (List.takeWhile lineB (List.drop (a + nat_lit 1) bs)).length) : Int)]
 [AV.sl (nat_lit 1) (bytesL bs) Own.no, AV.int IntKind.i64 (↑a : Int), AV.ptr (nat_lit 0) (nat_lit 0),
 AV.int IntKind.i64 (↑(nat_lit 1 + (List.takeWhile lineB (List.drop (a + nat_lit 1) bs)).length) : Int)] ∧
 StIs { boxes := [some [AV.int IntKind.i64 (0 : Int), AV.str [], AV.int IntKind.i64 (0 : Int)]], live := [] }
 { boxes := [some [AV.int IntKind.i64 (0 : Int), AV.str [], AV.int IntKind.i64 (0 : Int)]], live := [] } ∧
 (List.drop (List.takeWhile lineB (List.drop (a + (1 : Nat)) bs)).length (List.drop (a + (1 : Nat)) bs)).head? =
 some (34 : UInt8) ∧
 True))) ∧
 ∀ (_x : Unit),
 (List.drop (List.takeWhile lineB (List.drop (a + (1 : Nat)) bs)).length (List.drop (a + (1 : Nat)) bs)).head? = some (34 : UInt8) →
 True →
 (0 : Int) ≤ IntKind.i64.wrap ((↑a : Int) + (1 : Int)) ∧
 (0 : Int) ≤ IntKind.i64.wrap ((↑a : Int) + (↑(nat_lit 1 + (List.takeWhile lineB (List.drop (a + nat_lit 1) bs)).length) : Int)) ∧
 ((IntKind.i64.wrap ((↑a : Int) + (1 : Int))).toNat ≤
 (IntKind.i64.wrap ((↑a : Int) + (↑(nat_lit 1 + (List.takeWhile lineB (List.drop (a + nat_lit 1) bs)).length) : Int))).toNat ∧
 (IntKind.i64.wrap ((↑a : Int) + (↑(nat_lit 1 + (List.takeWhile lineB (List.drop (a + nat_lit 1) bs)).length) : Int))).toNat ≤
 (bytesL bs).length) ∧
 (nat_lit 1 = nat_lit 1 ∨ bytesL bs = []) ∧
 (nat_lit 1 = nat_lit 1 ∨
 List.drop (IntKind.i64.wrap ((↑a : Int) + (1 : Int))).toNat
 (List.take
 (IntKind.i64.wrap ((↑a : Int) + (↑(nat_lit 1 + (List.takeWhile lineB (List.drop (a + nat_lit 1) bs)).length) : Int))).toNat
 (bytesL bs)) =
 []) ∧
 ∃ (l : List UInt8),
 List.mapM byteOf
 (List.drop (IntKind.i64.wrap ((↑a : Int) + (1 : Int))).toNat
 (List.take
 (IntKind.i64.wrap
 ((↑a : Int) + (↑(nat_lit 1 + (List.takeWhile lineB (List.drop (a + nat_lit 1) bs)).length) : Int))).toNat
 (bytesL bs))) =
 some l ∧
 (decide ((↑l.length : Int) > (64 : Int)) = true →
 RetIs
 (AV.tup
 [AV.agg [AV.int IntKind.i64 (0 : Int), AV.str [], AV.int IntKind.i64 (0 : Int)],
 AV.int IntKind.i64
 (IntKind.i64.wrap ((↑(nat_lit 1 + (List.takeWhile lineB (List.drop (a + nat_lit 1) bs)).length) : Int) + (1 : Int))),
 AV.int IntKind.i64 (2 : Int)])
 []
 (AV.tup
 [AV.agg
 [AV.int IntKind.i64 (tokTk (List.drop a bs) a).kind, AV.str (tokTk (List.drop a bs) a).text,
 AV.int IntKind.i64 (↑(tokTk (List.drop a bs) a).at_ : Int)],
 AV.int IntKind.i64 (tokN (List.drop a bs)), AV.int IntKind.i64 (piece (List.drop a bs)).snd.snd],
 [])) ∧
 (decide ((↑l.length : Int) > (64 : Int)) = false →
 (∃ (y : Nat),
 ValsAre
 [AV.int IntKind.i64 (↑a : Int), AV.ptr (nat_lit 0) (nat_lit 0),
 AV.int IntKind.i64 (↑(nat_lit 1 + (List.takeWhile lineB (List.drop (a + nat_lit 1) bs)).length) : Int), AV.str l,
 AV.int IntKind.i64 (0 : Int)]
 [AV.int IntKind.i64 (↑a : Int), AV.ptr (nat_lit 0) (nat_lit 0),
 AV.int IntKind.i64 (↑(nat_lit 1 + (List.takeWhile lineB (List.drop (a + nat_lit 1) bs)).length) : Int),
 AV.str (List.takeWhile lineB (List.drop (a + nat_lit 1) bs)), AV.int IntKind.i64 (↑y : Int)] ∧
 StIs { boxes := [some [AV.int IntKind.i64 (0 : Int), AV.str [], AV.int IntKind.i64 (0 : Int)]], live := [] }
 { boxes := [some [AV.int IntKind.i64 (0 : Int), AV.str [], AV.int IntKind.i64 (0 : Int)]], live := [] } ∧
 (y ≤ (List.takeWhile lineB (List.drop (a + (1 : Nat)) bs)).length ∧
 (List.take y (List.takeWhile lineB (List.drop (a + (1 : Nat)) bs))).any badB = false) ∧
 True) ∧
 ∀ (x : Nat),
 x ≤ (List.takeWhile lineB (List.drop (a + (1 : Nat)) bs)).length ∧
 (List.take x (List.takeWhile lineB (List.drop (a + (1 : Nat)) bs))).any badB = false →
 (decide ((↑x : Int) < (↑(List.takeWhile lineB (List.drop (a + nat_lit 1) bs)).length : Int)) = true →
 (0 : Int) ≤ (↑x : Int) ∧
 ∃ (c : UInt8),
 (List.takeWhile lineB (List.drop (a + nat_lit 1) bs))[(↑x : Int).toNat]? = some c ∧
 (decide ((↑c.toNat : Int) < (32 : Int)) = true →
 RetIs
 (AV.tup
 [AV.agg [AV.int IntKind.i64 (0 : Int), AV.str [], AV.int IntKind.i64 (0 : Int)],
 AV.int IntKind.i64
 (IntKind.i64.wrap
 ((↑(nat_lit 1 + (List.takeWhile lineB (List.drop (a + nat_lit 1) bs)).length) : Int) +
 (1 : Int))),
 AV.int IntKind.i64 (3 : Int)])
 []
 (AV.tup
 [AV.agg
 [AV.int IntKind.i64 (tokTk (List.drop a bs) a).kind, AV.str (tokTk (List.drop a bs) a).text,
 AV.int IntKind.i64 (↑(tokTk (List.drop a bs) a).at_ : Int)],
 AV.int IntKind.i64 (tokN (List.drop a bs)), AV.int IntKind.i64 (piece (List.drop a bs)).snd.snd],
 [])) ∧
 (decide ((↑c.toNat : Int) < (32 : Int)) = false →
 (0 : Int) ≤ (↑x : Int) ∧
 ∃ (c : UInt8),
 (List.takeWhile lineB (List.drop (a + nat_lit 1) bs))[(↑x : Int).toNat]? = some c ∧
 (decide ((↑c.toNat : Int) > (126 : Int)) = true →
 RetIs
 (AV.tup
 [AV.agg [AV.int IntKind.i64 (0 : Int), AV.str [], AV.int IntKind.i64 (0 : Int)],
 AV.int IntKind.i64
 (IntKind.i64.wrap
 ((↑(nat_lit 1 + (List.takeWhile lineB (List.drop (a + nat_lit 1) bs)).length) : Int) +
 (1 : Int))),
 AV.int IntKind.i64 (3 : Int)])
 []
 (AV.tup
 [AV.agg
 [AV.int IntKind.i64 (tokTk (List.drop a bs) a).kind,
 AV.str (tokTk (List.drop a bs) a).text,
 AV.int IntKind.i64 (↑(tokTk (List.drop a bs) a).at_ : Int)],
 AV.int IntKind.i64 (tokN (List.drop a bs)),
 AV.int IntKind.i64 (piece (List.drop a bs)).snd.snd],
 [])) ∧
 (decide ((↑c.toNat : Int) > (126 : Int)) = false →
 (0 : Int) ≤ (↑x : Int) ∧
 ∃ (c : UInt8),
 (List.takeWhile lineB (List.drop (a + nat_lit 1) bs))[(↑x : Int).toNat]? = some c ∧
 (((↑c.toNat : Int) == (92 : Int)) = true →
 RetIs
 (AV.tup
 [AV.agg [AV.int IntKind.i64 (0 : Int), AV.str [], AV.int IntKind.i64 (0 : Int)],
 AV.int IntKind.i64
 (IntKind.i64.wrap
 ((↑(nat_lit 1 +
 (List.takeWhile lineB (List.drop (a + nat_lit 1) bs)).length) :
 Int) +
 (1 : Int))),
 AV.int IntKind.i64 (3 : Int)])
 []
 (AV.tup
 [AV.agg
 [AV.int IntKind.i64 (tokTk (List.drop a bs) a).kind,
 AV.str (tokTk (List.drop a bs) a).text,
 AV.int IntKind.i64 (↑(tokTk (List.drop a bs) a).at_ : Int)],
 AV.int IntKind.i64 (tokN (List.drop a bs)),
 AV.int IntKind.i64 (piece (List.drop a bs)).snd.snd],
 [])) ∧
 (((↑c.toNat : Int) == (92 : Int)) = false →
 ∃ (y : Nat),
 ValsAre
 [AV.int IntKind.i64 (↑a : Int), AV.ptr (nat_lit 0) (nat_lit 0),
 AV.int IntKind.i64
 (↑(nat_lit 1 +
 (List.takeWhile lineB (List.drop (a + nat_lit 1) bs)).length) :
 Int),
 AV.str (List.takeWhile lineB (List.drop (a + nat_lit 1) bs)),
 AV.int IntKind.i64 (IntKind.i64.wrap ((↑x : Int) + (1 : Int)))]
 [AV.int IntKind.i64 (↑a : Int), AV.ptr (nat_lit 0) (nat_lit 0),
 AV.int IntKind.i64
 (↑(nat_lit 1 +
 (List.takeWhile lineB (List.drop (a + nat_lit 1) bs)).length) :
 Int),
 AV.str (List.takeWhile lineB (List.drop (a + nat_lit 1) bs)),
 AV.int IntKind.i64 (↑y : Int)] ∧
 StIs
 { boxes := [some [AV.int IntKind.i64 (0 : Int), AV.str [], AV.int IntKind.i64 (0 : Int)]], live := [] }
 { boxes := [some [AV.int IntKind.i64 (0 : Int), AV.str [], AV.int IntKind.i64 (0 : Int)]], live := [] } ∧
 (y ≤ (List.takeWhile lineB (List.drop (a + (1 : Nat)) bs)).length ∧
 (List.take y (List.takeWhile lineB (List.drop (a + (1 : Nat)) bs))).any
 badB =
 false) ∧
 bs.length - y < bs.length - x)))) ∧
 (decide ((↑x : Int) < (↑(List.takeWhile lineB (List.drop (a + nat_lit 1) bs)).length : Int)) = false →
 RetIs
 (AV.tup
 [AV.agg
 [AV.int IntKind.i64 (4 : Int), AV.str (List.takeWhile lineB (List.drop (a + nat_lit 1) bs)),
 AV.int IntKind.i64 (↑a : Int)],
 AV.int IntKind.i64
 (IntKind.i64.wrap
 ((↑(nat_lit 1 + (List.takeWhile lineB (List.drop (a + nat_lit 1) bs)).length) : Int) + (1 : Int))),
 AV.int IntKind.i64 (0 : Int)])
 []
 (AV.tup
 [AV.agg
 [AV.int IntKind.i64 (tokTk (List.drop a bs) a).kind, AV.str (tokTk (List.drop a bs) a).text,
 AV.int IntKind.i64 (↑(tokTk (List.drop a bs) a).at_ : Int)],
 AV.int IntKind.i64 (tokN (List.drop a bs)), AV.int IntKind.i64 (piece (List.drop a bs)).snd.snd],
 [])))) := by kernel_rfl
theorem w31 (m : Int) (bs : List UInt8) (a : Nat) : (pureW PP (G8 m) XR (tbl [(33, s33t), (44, s44), (45, s45), (46, s46), (47, s47)]) (itbl []) ⟨nA, nA⟩ [] 31 [bytesA bs, .int .i64 a] (tokR (bs.drop a) a, [])) =
(∃ (n : Int),
  CallIs
      (tbl [(nat_lit 33, s33t), (nat_lit 44, s44), (nat_lit 45, s45), (nat_lit 46, s46), (nat_lit 47, s47)] (nat_lit 33)
        [AV.sl (nat_lit 1) (bytesL bs) Own.no, AV.int IntKind.i64 (↑a : Int)])
      (AV.int IntKind.i64 n) [] ∧
    (decide (n > (24 : Int)) = true →
        RetIs (AV.tup [AV.agg [AV.int IntKind.i64 (0 : Int), AV.str [], AV.int IntKind.i64 (0 : Int)], AV.int IntKind.i64 n, AV.int IntKind.i64 (2 : Int)]) []
 (AV.tup
 [AV.agg
 [AV.int IntKind.i64 (tokTk (List.drop a bs) a).kind, AV.str (tokTk (List.drop a bs) a).text,
 AV.int IntKind.i64 (↑(tokTk (List.drop a bs) a).at_ : Int)],
 AV.int IntKind.i64 (tokN (List.drop a bs)), AV.int IntKind.i64 (piece (List.drop a bs)).snd.snd],
 [])) ∧
      (decide (n > (24 : Int)) = false →
        (decide (n > (0 : Int)) = true →
 (0 : Int) ≤ (↑a : Int) ∧
 (0 : Int) ≤ IntKind.i64.wrap ((↑a : Int) + n) ∧
 ((↑a : Int).toNat ≤ (IntKind.i64.wrap ((↑a : Int) + n)).toNat ∧ (IntKind.i64.wrap ((↑a : Int) + n)).toNat ≤ (bytesL bs).length) ∧
 (nat_lit 1 = nat_lit 1 ∨ bytesL bs = []) ∧
 (nat_lit 1 = nat_lit 1 ∨ List.drop (↑a : Int).toNat (List.take (IntKind.i64.wrap ((↑a : Int) + n)).toNat (bytesL bs)) = []) ∧
 ∃ (l : List UInt8),
 List.mapM byteOf (List.drop (↑a : Int).toNat (List.take (IntKind.i64.wrap ((↑a : Int) + n)).toNat (bytesL bs))) = some l ∧
 RetIs
 (AV.tup
 [AV.agg [AV.int IntKind.i64 (1 : Int), AV.str l, AV.int IntKind.i64 (↑a : Int)], AV.int IntKind.i64 n,
 AV.int IntKind.i64 (0 : Int)])
 []
 (AV.tup
 [AV.agg
 [AV.int IntKind.i64 (tokTk (List.drop a bs) a).kind, AV.str (tokTk (List.drop a bs) a).text,
 AV.int IntKind.i64 (↑(tokTk (List.drop a bs) a).at_ : Int)],
 AV.int IntKind.i64 (tokN (List.drop a bs)), AV.int IntKind.i64 (piece (List.drop a bs)).snd.snd],
 [])) ∧
 (decide (n > (0 : Int)) = false →
 ((0 : Int) ≤ (↑a : Int) ∧ (↑a : Int) < (↑(bytesL bs).length : Int)) ∧
 ∃ (n : Int),
 takeAt PP (nat_lit 5) (bytesL bs) (↑a : Int).toNat (nat_lit 0) = some (AV.int IntKind.u8 n) ∧
 ∃ (b : Bool),
 CallIs (some (AV.bool (decide ((48 : Int) ≤ n ∧ n ≤ (57 : Int))), [])) (AV.bool b) [] ∧
 (b = true →
 ∃ (n : Int),
 ∃ (s : List UInt8),
 ∃ (n_1 : Int),
 ∃ (n_2 : Int),
 ∃ (n_3 : Int),
 CallIs
 (tbl [(nat_lit 33, s33t), (nat_lit 44, s44), (nat_lit 45, s45), (nat_lit 46, s46), (nat_lit 47, s47)] (nat_lit 45)
 [AV.sl (nat_lit 1) (bytesL bs) Own.no, AV.int IntKind.i64 (↑a : Int)])
 (AV.tup
 [AV.agg [AV.int IntKind.i64 n, AV.str s, AV.int IntKind.i64 n_1], AV.int IntKind.i64 n_2, AV.int IntKind.i64 n_3])
 [] ∧
 RetIs
 (AV.tup
 [AV.agg [AV.int IntKind.i64 n, AV.str s, AV.int IntKind.i64 n_1], AV.int IntKind.i64 n_2, AV.int IntKind.i64 n_3])
 []
 (AV.tup
 [AV.agg
 [AV.int IntKind.i64 (tokTk (List.drop a bs) a).kind, AV.str (tokTk (List.drop a bs) a).text,
 AV.int IntKind.i64 (↑(tokTk (List.drop a bs) a).at_ : Int)],
 AV.int IntKind.i64 (tokN (List.drop a bs)), AV.int IntKind.i64 (piece (List.drop a bs)).snd.snd],
 [])) ∧
 (b = false →
 ((0 : Int) ≤ (↑a : Int) ∧ (↑a : Int) < (↑(bytesL bs).length : Int)) ∧
 ∃ (n : Int),
 takeAt PP (nat_lit 5) (bytesL bs) (↑a : Int).toNat (nat_lit 0) = some (AV.int IntKind.u8 n) ∧
 ((n == (34 : Int)) = true →
 ∃ (n : Int),
 ∃ (s : List UInt8),
 ∃ (n_1 : Int),
 ∃ (n_2 : Int),
 ∃ (n_3 : Int),
 CallIs
 (tbl [(nat_lit 33, s33t), (nat_lit 44, s44), (nat_lit 45, s45), (nat_lit 46, s46), (nat_lit 47, s47)]
 (nat_lit 46) [AV.sl (nat_lit 1) (bytesL bs) Own.no, AV.int IntKind.i64 (↑a : Int)])
 (AV.tup
 [AV.agg [AV.int IntKind.i64 n, AV.str s, AV.int IntKind.i64 n_1], AV.int IntKind.i64 n_2,
 AV.int IntKind.i64 n_3])
 [] ∧
 RetIs
 (AV.tup
 [AV.agg [AV.int IntKind.i64 n, AV.str s, AV.int IntKind.i64 n_1], AV.int IntKind.i64 n_2,
 AV.int IntKind.i64 n_3])
 []
 (AV.tup
 [AV.agg
 [AV.int IntKind.i64 (tokTk (List.drop a bs) a).kind, AV.str (tokTk (List.drop a bs) a).text,
 AV.int IntKind.i64 (↑(tokTk (List.drop a bs) a).at_ : Int)],
 AV.int IntKind.i64 (tokN (List.drop a bs)), AV.int IntKind.i64 (piece (List.drop a bs)).snd.snd],
 [])) ∧
 ((n == (34 : Int)) = false →
 ∃ (n : Int),
 CallIs
 (tbl [(nat_lit 33, s33t), (nat_lit 44, s44), (nat_lit 45, s45), (nat_lit 46, s46), (nat_lit 47, s47)] (nat_lit 47)
 [AV.sl (nat_lit 1) (bytesL bs) Own.no, AV.int IntKind.i64 (↑a : Int)])
 (AV.int IntKind.i64 n) [] ∧
 ((n == (0 : Int)) = true →
 RetIs
 (AV.tup
 [AV.agg [AV.int IntKind.i64 (0 : Int), AV.str [], AV.int IntKind.i64 (0 : Int)], AV.int IntKind.i64 (0 : Int),
 AV.int IntKind.i64 (80 : Int)])
 []
 (AV.tup
 [AV.agg
 [AV.int IntKind.i64 (tokTk (List.drop a bs) a).kind, AV.str (tokTk (List.drop a bs) a).text,
 AV.int IntKind.i64 (↑(tokTk (List.drop a bs) a).at_ : Int)],
 AV.int IntKind.i64 (tokN (List.drop a bs)), AV.int IntKind.i64 (piece (List.drop a bs)).snd.snd],
 [])) ∧
 ((n == (0 : Int)) = false →
 (0 : Int) ≤ (↑a : Int) ∧
 (0 : Int) ≤ IntKind.i64.wrap ((↑a : Int) + n) ∧
 ((↑a : Int).toNat ≤ (IntKind.i64.wrap ((↑a : Int) + n)).toNat ∧
 (IntKind.i64.wrap ((↑a : Int) + n)).toNat ≤ (bytesL bs).length) ∧
 (nat_lit 1 = nat_lit 1 ∨ bytesL bs = []) ∧
 (nat_lit 1 = nat_lit 1 ∨
 List.drop (↑a : Int).toNat (List.take (IntKind.i64.wrap ((↑a : Int) + n)).toNat (bytesL bs)) = []) ∧
 ∃ (l : List UInt8),
 List.mapM byteOf
 (List.drop (↑a : Int).toNat (List.take (IntKind.i64.wrap ((↑a : Int) + n)).toNat (bytesL bs))) =
 some l ∧
 RetIs
 (AV.tup
 [AV.agg [AV.int IntKind.i64 (5 : Int), AV.str l, AV.int IntKind.i64 (↑a : Int)],
 AV.int IntKind.i64 n, AV.int IntKind.i64 (0 : Int)])
 []
 (AV.tup
 [AV.agg
 [AV.int IntKind.i64 (tokTk (List.drop a bs) a).kind, AV.str (tokTk (List.drop a bs) a).text,
 AV.int IntKind.i64 (↑(tokTk (List.drop a bs) a).at_ : Int)],
 AV.int IntKind.i64 (tokN (List.drop a bs)),
 AV.int IntKind.i64 (piece (List.drop a bs)).snd.snd],
 []))))))) := by kernel_rfl
theorem w13 (m : Int) (bs : List UInt8) : (laxW PP (G8 m) XR (tbl [(30, s30), (31, s31)]) (itbl []) (a13 bs) [] 13 [bytesA bs] (r12 bs)) =
((decide ((↑(bytesL bs).length : Int) > (16384 : Int)) = true →
    RetLax (AV.tup [AV.sl (nat_lit 0) [] Own.nil, AV.sl (nat_lit 0) [] Own.nil, AV.int IntKind.i64 (2 : Int)])
      (if bs.length ≤ nat_lit 16384 then
 AV.tup [AV.sl (nat_lit 3) (List.map tokA (toksL bs)) Own.no, AV.sl (nat_lit 2) (List.map pbA (probsL bs)) Own.no, AV.int IntKind.i64 (0 : Int)]
        else AV.tup [AV.sl (nat_lit 3) [] Own.no, AV.sl (nat_lit 2) [] Own.no, AV.int IntKind.i64 (2 : Int)],
        [])) ∧
  (decide ((↑(bytesL bs).length : Int) > (16384 : Int)) = false →
    ∃ (n : Int),
      CallIs (tbl [(nat_lit 30, s30), (nat_lit 31, s31)] (nat_lit 30) [AV.sl (nat_lit 1) (bytesL bs) Own.no, AV.int IntKind.i64 (0 : Int)])
 (AV.int IntKind.i64 n) [] ∧
        (∃ (y : X13),
 ValsAre
 [AV.sl (nat_lit 1) (bytesL bs) Own.no, AV.sl (nat_lit 3) [] (Own.tok (nat_lit 0)), AV.sl (nat_lit 2) [] (Own.tok (nat_lit 1)),
 AV.int IntKind.i64 n, AV.bool false]
 [AV.sl (nat_lit 1) (bytesL bs) Own.no, AV.sl (nat_lit 3) (List.map tokA y.l) (Own.tok (nat_lit 0)),
 AV.sl (nat_lit 2) (List.map pbA (List.take (nat_lit 32) y.b)) (Own.tok (nat_lit 1)), AV.int IntKind.i64 (↑y.p : Int), AV.bool y.adj] ∧
 StIs { boxes := [], live := [(nat_lit 0, nat_lit 38), (nat_lit 0, nat_lit 40)] }
 { boxes := [], live := [(y.l.length, nat_lit 38), ((List.take (nat_lit 32) y.b).length, nat_lit 40)] } ∧
 Inv13 bs y ∧ True) ∧
 ∀ (x : X13),
 Inv13 bs x →
 (x.adj = true →
 (decide ((↑x.p : Int) < (↑(bytesL bs).length : Int)) = true →
 ∃ (n : Int),
 ∃ (s : List UInt8),
 ∃ (n_1 : Int),
 ∃ (n_2 : Int),
 ∃ (n_3 : Int),
 CallIs
 (tbl [(nat_lit 30, s30), (nat_lit 31, s31)] (nat_lit 31)
 [AV.sl (nat_lit 1) (bytesL bs) Own.no, AV.int IntKind.i64 (↑x.p : Int)])
 (AV.tup [AV.agg [AV.int IntKind.i64 n, AV.str s, AV.int IntKind.i64 n_1], AV.int IntKind.i64 n_2, AV.int IntKind.i64 n_3])
 [] ∧
 (((n_3 != (0 : Int)) = true →
 (decide (n_2 > (0 : Int)) = true →
 (decide ((↑(List.map pbA (List.take (nat_lit 32) x.b)).length : Int) < (32 : Int)) = true →
 (nat_lit 2 = nat_lit 2 ∨ List.map pbA (List.take (nat_lit 32) x.b) = []) ∧
 ((List.map pbA (List.take (nat_lit 32) x.b)).length + (1 : Nat)) * nat_lit 17 ≤ nat_lit 70368744177664 ∧
 (List.take (nat_lit 32) x.b).length = (List.map pbA (List.take (nat_lit 32) x.b)).length ∧
 ∃ (y : X13),
 ValsAre
 [AV.sl (nat_lit 1) (bytesL bs) Own.no, AV.sl (nat_lit 3) (List.map tokA x.l) (Own.tok (nat_lit 0)),
 AV.sl (nat_lit 2)
 (List.map pbA (List.take (nat_lit 32) x.b) ++
 [AV.agg [AV.int IntKind.i64 (↑x.p : Int), AV.int IntKind.i64 n_3]])
 (Own.tok (nat_lit 1)),
 AV.int IntKind.i64 (↑x.p : Int), AV.ptr (nat_lit 0) (nat_lit 0), AV.int IntKind.i64 n_2,
 AV.int IntKind.i64 n_3]
 [AV.sl (nat_lit 1) (bytesL bs) Own.no, AV.sl (nat_lit 3) (List.map tokA y.l) (Own.tok (nat_lit 0)),
 AV.sl (nat_lit 2) (List.map pbA (List.take (nat_lit 32) y.b)) (Own.tok (nat_lit 1)),
 AV.int IntKind.i64 (↑y.p : Int), AV.ptr (nat_lit 0) (nat_lit 0),
 AV.int IntKind.i64 (tokN (List.drop y.p bs)),
 AV.int IntKind.i64 (piece (List.drop y.p bs)).snd.snd] ∧
 StIs
 { boxes := [some [AV.int IntKind.i64 n, AV.str s, AV.int IntKind.i64 n_1]], live := [(x.l.length, nat_lit 38), ((List.map pbA (List.take (nat_lit 32) x.b)).length + nat_lit 1, nat_lit 40)] }
 { boxes := [some [AV.int IntKind.i64 (tokTk (List.drop y.p bs) y.p).kind, AV.str (tokTk (List.drop y.p bs) y.p).text, AV.int IntKind.i64 (↑(tokTk (List.drop y.p bs) y.p).at_ : Int)]], live := [(y.l.length, nat_lit 38), ((List.take (nat_lit 32) y.b).length, nat_lit 40)] } ∧
 Inv11 bs y ∧ AV.int IntKind.i64 (↑x.p : Int) = AV.int IntKind.i64 (↑y.p : Int)) ∧
 (decide ((↑(List.map pbA (List.take (nat_lit 32) x.b)).length : Int) < (32 : Int)) = false →
 ∃ (y : X13),
 ValsAre
 [AV.sl (nat_lit 1) (bytesL bs) Own.no, AV.sl (nat_lit 3) (List.map tokA x.l) (Own.tok (nat_lit 0)),
 AV.sl (nat_lit 2) (List.map pbA (List.take (nat_lit 32) x.b)) (Own.tok (nat_lit 1)),
 AV.int IntKind.i64 (↑x.p : Int), AV.ptr (nat_lit 0) (nat_lit 0), AV.int IntKind.i64 n_2,
 AV.int IntKind.i64 n_3]
 [AV.sl (nat_lit 1) (bytesL bs) Own.no, AV.sl (nat_lit 3) (List.map tokA y.l) (Own.tok (nat_lit 0)),
 AV.sl (nat_lit 2) (List.map pbA (List.take (nat_lit 32) y.b)) (Own.tok (nat_lit 1)),
 AV.int IntKind.i64 (↑y.p : Int), AV.ptr (nat_lit 0) (nat_lit 0),
 AV.int IntKind.i64 (tokN (List.drop y.p bs)), AV.int IntKind.i64 (piece (List.drop y.p bs)).snd.snd] ∧
 StIs
 { boxes := [some [AV.int IntKind.i64 n, AV.str s, AV.int IntKind.i64 n_1]], live := [(x.l.length, nat_lit 38), ((List.take (nat_lit 32) x.b).length, nat_lit 40)] }
 { boxes := [some [AV.int IntKind.i64 (tokTk (List.drop y.p bs) y.p).kind, AV.str (tokTk (List.drop y.p bs) y.p).text, AV.int IntKind.i64 (↑(tokTk (List.drop y.p bs) y.p).at_ : Int)]], live := [(y.l.length, nat_lit 38), ((List.take (nat_lit 32) y.b).length, nat_lit 40)] } ∧
 Inv11 bs y ∧ AV.int IntKind.i64 (↑x.p : Int) = AV.int IntKind.i64 (↑y.p : Int))) ∧
 (decide (n_2 > (0 : Int)) = false →
 ∃ (y : X13),
 ValsAre
 [AV.sl (nat_lit 1) (bytesL bs) Own.no, AV.sl (nat_lit 3) (List.map tokA x.l) (Own.tok (nat_lit 0)),
 AV.sl (nat_lit 2) (List.map pbA (List.take (nat_lit 32) x.b)) (Own.tok (nat_lit 1)),
 AV.int IntKind.i64 (↑x.p : Int), AV.ptr (nat_lit 0) (nat_lit 0), AV.int IntKind.i64 n_2,
 AV.int IntKind.i64 n_3]
 [AV.sl (nat_lit 1) (bytesL bs) Own.no, AV.sl (nat_lit 3) (List.map tokA y.l) (Own.tok (nat_lit 0)),
 AV.sl (nat_lit 2) (List.map pbA (List.take (nat_lit 32) y.b)) (Own.tok (nat_lit 1)),
 AV.int IntKind.i64 (↑y.p : Int), AV.ptr (nat_lit 0) (nat_lit 0),
 AV.int IntKind.i64 (tokN (List.drop y.p bs)), AV.int IntKind.i64 (piece (List.drop y.p bs)).snd.snd] ∧
 StIs
 { boxes := [some [AV.int IntKind.i64 n, AV.str s, AV.int IntKind.i64 n_1]], live := [(x.l.length, nat_lit 38), ((List.take (nat_lit 32) x.b).length, nat_lit 40)] }
 { boxes := [some [AV.int IntKind.i64 (tokTk (List.drop y.p bs) y.p).kind, AV.str (tokTk (List.drop y.p bs) y.p).text, AV.int IntKind.i64 (↑(tokTk (List.drop y.p bs) y.p).at_ : Int)]], live := [(y.l.length, nat_lit 38), ((List.take (nat_lit 32) y.b).length, nat_lit 40)] } ∧
 Inv11 bs y ∧ AV.int IntKind.i64 (↑x.p : Int) = AV.int IntKind.i64 (↑y.p : Int))) ∧
 ((n_3 != (0 : Int)) = false →
 ∃ (y : X13),
 ValsAre
 [AV.sl (nat_lit 1) (bytesL bs) Own.no, AV.sl (nat_lit 3) (List.map tokA x.l) (Own.tok (nat_lit 0)),
 AV.sl (nat_lit 2) (List.map pbA (List.take (nat_lit 32) x.b)) (Own.tok (nat_lit 1)),
 AV.int IntKind.i64 (↑x.p : Int), AV.ptr (nat_lit 0) (nat_lit 0), AV.int IntKind.i64 n_2, AV.int IntKind.i64 n_3]
 [AV.sl (nat_lit 1) (bytesL bs) Own.no, AV.sl (nat_lit 3) (List.map tokA y.l) (Own.tok (nat_lit 0)),
 AV.sl (nat_lit 2) (List.map pbA (List.take (nat_lit 32) y.b)) (Own.tok (nat_lit 1)),
 AV.int IntKind.i64 (↑y.p : Int), AV.ptr (nat_lit 0) (nat_lit 0), AV.int IntKind.i64 (tokN (List.drop y.p bs)),
 AV.int IntKind.i64 (piece (List.drop y.p bs)).snd.snd] ∧
 StIs
 { boxes := [some [AV.int IntKind.i64 n, AV.str s, AV.int IntKind.i64 n_1]], live := [(x.l.length, nat_lit 38), ((List.take (nat_lit 32) x.b).length, nat_lit 40)] }
 { boxes := [some [AV.int IntKind.i64 (tokTk (List.drop y.p bs) y.p).kind, AV.str (tokTk (List.drop y.p bs) y.p).text, AV.int IntKind.i64 (↑(tokTk (List.drop y.p bs) y.p).at_ : Int)]], live := [(y.l.length, nat_lit 38), ((List.take (nat_lit 32) y.b).length, nat_lit 40)] } ∧
 Inv11 bs y ∧ AV.int IntKind.i64 (↑x.p : Int) = AV.int IntKind.i64 (↑y.p : Int))) ∧
 ∀ (x_1 : X13),
 Inv11 bs x_1 →
 AV.int IntKind.i64 (↑x.p : Int) = AV.int IntKind.i64 (↑x_1.p : Int) →
 ((((piece (List.drop x_1.p bs)).snd.snd == (0 : Int)) = true →
 (nat_lit 3 = nat_lit 3 ∨ List.map tokA x_1.l = []) ∧
 ((List.map tokA x_1.l).length + (1 : Nat)) * nat_lit 33 ≤ nat_lit 70368744177664 ∧
 x_1.l.length = (List.map tokA x_1.l).length ∧
 ∃ (y : X13),
 ValsAre
 [AV.sl (nat_lit 1) (bytesL bs) Own.no,
 AV.sl (nat_lit 3)
 (List.map tokA x_1.l ++
 [AV.agg
 [AV.int IntKind.i64 (tokTk (List.drop x_1.p bs) x_1.p).kind,
 AV.str (tokTk (List.drop x_1.p bs) x_1.p).text,
 AV.int IntKind.i64 (↑(tokTk (List.drop x_1.p bs) x_1.p).at_ : Int)]])
 (Own.tok (nat_lit 0)),
 AV.sl (nat_lit 2) (List.map pbA (List.take (nat_lit 32) x_1.b)) (Own.tok (nat_lit 1)),
 AV.int IntKind.i64 (↑x_1.p : Int), AV.int IntKind.i64 (tokN (List.drop x_1.p bs))]
 [AV.sl (nat_lit 1) (bytesL bs) Own.no, AV.sl (nat_lit 3) (List.map tokA y.l) (Own.tok (nat_lit 0)),
 AV.sl (nat_lit 2) (List.map pbA (List.take (nat_lit 32) y.b)) (Own.tok (nat_lit 1)),
 AV.int IntKind.i64 (↑y.p : Int), AV.int IntKind.i64 (tokN (List.drop y.p bs))] ∧
 StIs
 { boxes := [some [AV.int IntKind.i64 (tokTk (List.drop x_1.p bs) x_1.p).kind, AV.str (tokTk (List.drop x_1.p bs) x_1.p).text, AV.int IntKind.i64 (↑(tokTk (List.drop x_1.p bs) x_1.p).at_ : Int)]], live := [((List.map tokA x_1.l).length + nat_lit 1, nat_lit 38), ((List.take (nat_lit 32) x_1.b).length, nat_lit 40)] }
 { boxes := [some [AV.int IntKind.i64 (tokTk (List.drop y.p bs) y.p).kind, AV.str (tokTk (List.drop y.p bs) y.p).text, AV.int IntKind.i64 (↑(tokTk (List.drop y.p bs) y.p).at_ : Int)]], live := [(y.l.length, nat_lit 38), ((List.take (nat_lit 32) y.b).length, nat_lit 40)] } ∧
 Inv13c bs y ∧ AV.int IntKind.i64 (↑x_1.p : Int) = AV.int IntKind.i64 (↑y.p : Int)) ∧
 (((piece (List.drop x_1.p bs)).snd.snd == (0 : Int)) = false →
 ∃ (y : X13),
 ValsAre
 [AV.sl (nat_lit 1) (bytesL bs) Own.no, AV.sl (nat_lit 3) (List.map tokA x_1.l) (Own.tok (nat_lit 0)),
 AV.sl (nat_lit 2) (List.map pbA (List.take (nat_lit 32) x_1.b)) (Own.tok (nat_lit 1)),
 AV.int IntKind.i64 (↑x_1.p : Int), AV.int IntKind.i64 (tokN (List.drop x_1.p bs))]
 [AV.sl (nat_lit 1) (bytesL bs) Own.no, AV.sl (nat_lit 3) (List.map tokA y.l) (Own.tok (nat_lit 0)),
 AV.sl (nat_lit 2) (List.map pbA (List.take (nat_lit 32) y.b)) (Own.tok (nat_lit 1)),
 AV.int IntKind.i64 (↑y.p : Int), AV.int IntKind.i64 (tokN (List.drop y.p bs))] ∧
 StIs
 { boxes := [some [AV.int IntKind.i64 (tokTk (List.drop x_1.p bs) x_1.p).kind, AV.str (tokTk (List.drop x_1.p bs) x_1.p).text, AV.int IntKind.i64 (↑(tokTk (List.drop x_1.p bs) x_1.p).at_ : Int)]], live := [(x_1.l.length, nat_lit 38), ((List.take (nat_lit 32) x_1.b).length, nat_lit 40)] }
 { boxes := [some [AV.int IntKind.i64 (tokTk (List.drop y.p bs) y.p).kind, AV.str (tokTk (List.drop y.p bs) y.p).text, AV.int IntKind.i64 (↑(tokTk (List.drop y.p bs) y.p).at_ : Int)]], live := [(y.l.length, nat_lit 38), ((List.take (nat_lit 32) y.b).length, nat_lit 40)] } ∧
 Inv13c bs y ∧ AV.int IntKind.i64 (↑x_1.p : Int) = AV.int IntKind.i64 (↑y.p : Int))) ∧
 ∀ (x_2 : X13),
 Inv13c bs x_2 →
 AV.int IntKind.i64 (↑x_1.p : Int) = AV.int IntKind.i64 (↑x_2.p : Int) →
 ∃ (n : Int),
 CallIs
 (tbl [(nat_lit 30, s30), (nat_lit 31, s31)] (nat_lit 30)
 [AV.sl (nat_lit 1) (bytesL bs) Own.no,
 AV.int IntKind.i64 (IntKind.i64.wrap ((↑x_2.p : Int) + max (tokN (List.drop x_2.p bs)) (1 : Int)))])
 (AV.int IntKind.i64 n) [] ∧
 ((tokN (List.drop x_2.p bs) == (0 : Int)) = true →
 ((n == IntKind.i64.wrap ((↑x_2.p : Int) + max (tokN (List.drop x_2.p bs)) (1 : Int))) = true →
 ∃ (y : X13),
 ValsAre
 [AV.sl (nat_lit 1) (bytesL bs) Own.no,
 AV.sl (nat_lit 3) (List.map tokA x_2.l) (Own.tok (nat_lit 0)),
 AV.sl (nat_lit 2) (List.map pbA (List.take (nat_lit 32) x_2.b)) (Own.tok (nat_lit 1)),
 AV.int IntKind.i64 n, AV.bool true]
 [AV.sl (nat_lit 1) (bytesL bs) Own.no,
 AV.sl (nat_lit 3) (List.map tokA y.l) (Own.tok (nat_lit 0)),
 AV.sl (nat_lit 2) (List.map pbA (List.take (nat_lit 32) y.b)) (Own.tok (nat_lit 1)),
 AV.int IntKind.i64 (↑y.p : Int), AV.bool y.adj] ∧
 StIs
 { boxes := [], live := [(x_2.l.length, nat_lit 38), ((List.take (nat_lit 32) x_2.b).length, nat_lit 40)] }
 { boxes := [], live := [(y.l.length, nat_lit 38), ((List.take (nat_lit 32) y.b).length, nat_lit 40)] } ∧
 Inv13 bs y ∧ bs.length - y.p < bs.length - x.p) ∧
 ((n == IntKind.i64.wrap ((↑x_2.p : Int) + max (tokN (List.drop x_2.p bs)) (1 : Int))) = false →
 ∃ (y : X13),
 ValsAre
 [AV.sl (nat_lit 1) (bytesL bs) Own.no,
 AV.sl (nat_lit 3) (List.map tokA x_2.l) (Own.tok (nat_lit 0)),
 AV.sl (nat_lit 2) (List.map pbA (List.take (nat_lit 32) x_2.b)) (Own.tok (nat_lit 1)),
 AV.int IntKind.i64 n, AV.bool false]
 [AV.sl (nat_lit 1) (bytesL bs) Own.no,
 AV.sl (nat_lit 3) (List.map tokA y.l) (Own.tok (nat_lit 0)),
 AV.sl (nat_lit 2) (List.map pbA (List.take (nat_lit 32) y.b)) (Own.tok (nat_lit 1)),
 AV.int IntKind.i64 (↑y.p : Int), AV.bool y.adj] ∧
 StIs
 { boxes := [], live := [(x_2.l.length, nat_lit 38), ((List.take (nat_lit 32) x_2.b).length, nat_lit 40)] }
 { boxes := [], live := [(y.l.length, nat_lit 38), ((List.take (nat_lit 32) y.b).length, nat_lit 40)] } ∧
 Inv13 bs y ∧ bs.length - y.p < bs.length - x.p)) ∧
 ((tokN (List.drop x_2.p bs) == (0 : Int)) = false →
 ∃ (y : X13),
 ValsAre
 [AV.sl (nat_lit 1) (bytesL bs) Own.no,
 AV.sl (nat_lit 3) (List.map tokA x_2.l) (Own.tok (nat_lit 0)),
 AV.sl (nat_lit 2) (List.map pbA (List.take (nat_lit 32) x_2.b)) (Own.tok (nat_lit 1)),
 AV.int IntKind.i64 n, AV.bool false]
 [AV.sl (nat_lit 1) (bytesL bs) Own.no,
 AV.sl (nat_lit 3) (List.map tokA y.l) (Own.tok (nat_lit 0)),
 AV.sl (nat_lit 2) (List.map pbA (List.take (nat_lit 32) y.b)) (Own.tok (nat_lit 1)),
 AV.int IntKind.i64 (↑y.p : Int), AV.bool y.adj] ∧
 StIs
 { boxes := [], live := [(x_2.l.length, nat_lit 38), ((List.take (nat_lit 32) x_2.b).length, nat_lit 40)] }
 { boxes := [], live := [(y.l.length, nat_lit 38), ((List.take (nat_lit 32) y.b).length, nat_lit 40)] } ∧
 Inv13 bs y ∧ bs.length - y.p < bs.length - x.p)) ∧
 (decide ((↑x.p : Int) < (↑(bytesL bs).length : Int)) = false →
 (nat_lit 3 = nat_lit 3 ∨ List.map tokA x.l = []) ∧
 ((List.map tokA x.l).length + (1 : Nat)) * nat_lit 33 ≤ nat_lit 70368744177664 ∧
 x.l.length = (List.map tokA x.l).length ∧
 RetLax
 (AV.tup
 [AV.sl (nat_lit 3)
 (List.map tokA x.l ++ [AV.agg [AV.int IntKind.i64 (6 : Int), AV.str [], AV.int IntKind.i64 (↑(bytesL bs).length : Int)]])
 (Own.tok (nat_lit 0)),
 AV.sl (nat_lit 2) (List.map pbA (List.take (nat_lit 32) x.b)) (Own.tok (nat_lit 1)), AV.int IntKind.i64 (0 : Int)])
 (if bs.length ≤ nat_lit 16384 then
 AV.tup
 [AV.sl (nat_lit 3) (List.map tokA (toksL bs)) Own.no, AV.sl (nat_lit 2) (List.map pbA (probsL bs)) Own.no,
 AV.int IntKind.i64 (0 : Int)]
 else AV.tup [AV.sl (nat_lit 3) [] Own.no, AV.sl (nat_lit 2) [] Own.no, AV.int IntKind.i64 (2 : Int)],
 []))) ∧
 (x.adj = false →
 (decide ((↑x.p : Int) < (↑(bytesL bs).length : Int)) = true →
 ∃ (n : Int),
 ∃ (s : List UInt8),
 ∃ (n_1 : Int),
 ∃ (n_2 : Int),
 ∃ (n_3 : Int),
 CallIs
 (tbl [(nat_lit 30, s30), (nat_lit 31, s31)] (nat_lit 31)
 [AV.sl (nat_lit 1) (bytesL bs) Own.no, AV.int IntKind.i64 (↑x.p : Int)])
 (AV.tup [AV.agg [AV.int IntKind.i64 n, AV.str s, AV.int IntKind.i64 n_1], AV.int IntKind.i64 n_2, AV.int IntKind.i64 n_3])
 [] ∧
 (((n_3 != (0 : Int)) = true →
 (decide (n_2 > (0 : Int)) = true →
 (decide ((↑(List.map pbA (List.take (nat_lit 32) x.b)).length : Int) < (32 : Int)) = true →
 (nat_lit 2 = nat_lit 2 ∨ List.map pbA (List.take (nat_lit 32) x.b) = []) ∧
 ((List.map pbA (List.take (nat_lit 32) x.b)).length + (1 : Nat)) * nat_lit 17 ≤ nat_lit 70368744177664 ∧
 (List.take (nat_lit 32) x.b).length = (List.map pbA (List.take (nat_lit 32) x.b)).length ∧
 ∃ (y : X13),
 ValsAre
 [AV.sl (nat_lit 1) (bytesL bs) Own.no, AV.sl (nat_lit 3) (List.map tokA x.l) (Own.tok (nat_lit 0)),
 AV.sl (nat_lit 2)
 (List.map pbA (List.take (nat_lit 32) x.b) ++
 [AV.agg [AV.int IntKind.i64 (↑x.p : Int), AV.int IntKind.i64 n_3]])
 (Own.tok (nat_lit 1)),
 AV.int IntKind.i64 (↑x.p : Int), AV.ptr (nat_lit 0) (nat_lit 0), AV.int IntKind.i64 n_2,
 AV.int IntKind.i64 n_3]
 [AV.sl (nat_lit 1) (bytesL bs) Own.no, AV.sl (nat_lit 3) (List.map tokA y.l) (Own.tok (nat_lit 0)),
 AV.sl (nat_lit 2) (List.map pbA (List.take (nat_lit 32) y.b)) (Own.tok (nat_lit 1)),
 AV.int IntKind.i64 (↑y.p : Int), AV.ptr (nat_lit 0) (nat_lit 0),
 AV.int IntKind.i64 (tokN (List.drop y.p bs)),
 AV.int IntKind.i64 (piece (List.drop y.p bs)).snd.snd] ∧
 StIs
 { boxes := [some [AV.int IntKind.i64 n, AV.str s, AV.int IntKind.i64 n_1]], live := [(x.l.length, nat_lit 38), ((List.map pbA (List.take (nat_lit 32) x.b)).length + nat_lit 1, nat_lit 40)] }
 { boxes := [some [AV.int IntKind.i64 (tokTk (List.drop y.p bs) y.p).kind, AV.str (tokTk (List.drop y.p bs) y.p).text, AV.int IntKind.i64 (↑(tokTk (List.drop y.p bs) y.p).at_ : Int)]], live := [(y.l.length, nat_lit 38), ((List.take (nat_lit 32) y.b).length, nat_lit 40)] } ∧
 Inv11 bs y ∧ AV.int IntKind.i64 (↑x.p : Int) = AV.int IntKind.i64 (↑y.p : Int)) ∧
 (decide ((↑(List.map pbA (List.take (nat_lit 32) x.b)).length : Int) < (32 : Int)) = false →
 ∃ (y : X13),
 ValsAre
 [AV.sl (nat_lit 1) (bytesL bs) Own.no, AV.sl (nat_lit 3) (List.map tokA x.l) (Own.tok (nat_lit 0)),
 AV.sl (nat_lit 2) (List.map pbA (List.take (nat_lit 32) x.b)) (Own.tok (nat_lit 1)),
 AV.int IntKind.i64 (↑x.p : Int), AV.ptr (nat_lit 0) (nat_lit 0), AV.int IntKind.i64 n_2,
 AV.int IntKind.i64 n_3]
 [AV.sl (nat_lit 1) (bytesL bs) Own.no, AV.sl (nat_lit 3) (List.map tokA y.l) (Own.tok (nat_lit 0)),
 AV.sl (nat_lit 2) (List.map pbA (List.take (nat_lit 32) y.b)) (Own.tok (nat_lit 1)),
 AV.int IntKind.i64 (↑y.p : Int), AV.ptr (nat_lit 0) (nat_lit 0),
 AV.int IntKind.i64 (tokN (List.drop y.p bs)), AV.int IntKind.i64 (piece (List.drop y.p bs)).snd.snd] ∧
 StIs
 { boxes := [some [AV.int IntKind.i64 n, AV.str s, AV.int IntKind.i64 n_1]], live := [(x.l.length, nat_lit 38), ((List.take (nat_lit 32) x.b).length, nat_lit 40)] }
 { boxes := [some [AV.int IntKind.i64 (tokTk (List.drop y.p bs) y.p).kind, AV.str (tokTk (List.drop y.p bs) y.p).text, AV.int IntKind.i64 (↑(tokTk (List.drop y.p bs) y.p).at_ : Int)]], live := [(y.l.length, nat_lit 38), ((List.take (nat_lit 32) y.b).length, nat_lit 40)] } ∧
 Inv11 bs y ∧ AV.int IntKind.i64 (↑x.p : Int) = AV.int IntKind.i64 (↑y.p : Int))) ∧
 (decide (n_2 > (0 : Int)) = false →
 (decide ((↑(List.map pbA (List.take (nat_lit 32) x.b)).length : Int) < (32 : Int)) = true →
 (nat_lit 2 = nat_lit 2 ∨ List.map pbA (List.take (nat_lit 32) x.b) = []) ∧
 ((List.map pbA (List.take (nat_lit 32) x.b)).length + (1 : Nat)) * nat_lit 17 ≤ nat_lit 70368744177664 ∧
 (List.take (nat_lit 32) x.b).length = (List.map pbA (List.take (nat_lit 32) x.b)).length ∧
 ∃ (y : X13),
 ValsAre
 [AV.sl (nat_lit 1) (bytesL bs) Own.no, AV.sl (nat_lit 3) (List.map tokA x.l) (Own.tok (nat_lit 0)),
 AV.sl (nat_lit 2)
 (List.map pbA (List.take (nat_lit 32) x.b) ++
 [AV.agg [AV.int IntKind.i64 (↑x.p : Int), AV.int IntKind.i64 n_3]])
 (Own.tok (nat_lit 1)),
 AV.int IntKind.i64 (↑x.p : Int), AV.ptr (nat_lit 0) (nat_lit 0), AV.int IntKind.i64 n_2,
 AV.int IntKind.i64 n_3]
 [AV.sl (nat_lit 1) (bytesL bs) Own.no, AV.sl (nat_lit 3) (List.map tokA y.l) (Own.tok (nat_lit 0)),
 AV.sl (nat_lit 2) (List.map pbA (List.take (nat_lit 32) y.b)) (Own.tok (nat_lit 1)),
 AV.int IntKind.i64 (↑y.p : Int), AV.ptr (nat_lit 0) (nat_lit 0),
 AV.int IntKind.i64 (tokN (List.drop y.p bs)),
 AV.int IntKind.i64 (piece (List.drop y.p bs)).snd.snd] ∧
 StIs
 { boxes := [some [AV.int IntKind.i64 n, AV.str s, AV.int IntKind.i64 n_1]], live := [(x.l.length, nat_lit 38), ((List.map pbA (List.take (nat_lit 32) x.b)).length + nat_lit 1, nat_lit 40)] }
 { boxes := [some [AV.int IntKind.i64 (tokTk (List.drop y.p bs) y.p).kind, AV.str (tokTk (List.drop y.p bs) y.p).text, AV.int IntKind.i64 (↑(tokTk (List.drop y.p bs) y.p).at_ : Int)]], live := [(y.l.length, nat_lit 38), ((List.take (nat_lit 32) y.b).length, nat_lit 40)] } ∧
 Inv11 bs y ∧ AV.int IntKind.i64 (↑x.p : Int) = AV.int IntKind.i64 (↑y.p : Int)) ∧
 (decide ((↑(List.map pbA (List.take (nat_lit 32) x.b)).length : Int) < (32 : Int)) = false →
 ∃ (y : X13),
 ValsAre
 [AV.sl (nat_lit 1) (bytesL bs) Own.no, AV.sl (nat_lit 3) (List.map tokA x.l) (Own.tok (nat_lit 0)),
 AV.sl (nat_lit 2) (List.map pbA (List.take (nat_lit 32) x.b)) (Own.tok (nat_lit 1)),
 AV.int IntKind.i64 (↑x.p : Int), AV.ptr (nat_lit 0) (nat_lit 0), AV.int IntKind.i64 n_2,
 AV.int IntKind.i64 n_3]
 [AV.sl (nat_lit 1) (bytesL bs) Own.no, AV.sl (nat_lit 3) (List.map tokA y.l) (Own.tok (nat_lit 0)),
 AV.sl (nat_lit 2) (List.map pbA (List.take (nat_lit 32) y.b)) (Own.tok (nat_lit 1)),
 AV.int IntKind.i64 (↑y.p : Int), AV.ptr (nat_lit 0) (nat_lit 0),
 AV.int IntKind.i64 (tokN (List.drop y.p bs)), AV.int IntKind.i64 (piece (List.drop y.p bs)).snd.snd] ∧
 StIs
 { boxes := [some [AV.int IntKind.i64 n, AV.str s, AV.int IntKind.i64 n_1]], live := [(x.l.length, nat_lit 38), ((List.take (nat_lit 32) x.b).length, nat_lit 40)] }
 { boxes := [some [AV.int IntKind.i64 (tokTk (List.drop y.p bs) y.p).kind, AV.str (tokTk (List.drop y.p bs) y.p).text, AV.int IntKind.i64 (↑(tokTk (List.drop y.p bs) y.p).at_ : Int)]], live := [(y.l.length, nat_lit 38), ((List.take (nat_lit 32) y.b).length, nat_lit 40)] } ∧
 Inv11 bs y ∧ AV.int IntKind.i64 (↑x.p : Int) = AV.int IntKind.i64 (↑y.p : Int)))) ∧
 ((n_3 != (0 : Int)) = false →
 ∃ (y : X13),
 ValsAre
 [AV.sl (nat_lit 1) (bytesL bs) Own.no, AV.sl (nat_lit 3) (List.map tokA x.l) (Own.tok (nat_lit 0)),
 AV.sl (nat_lit 2) (List.map pbA (List.take (nat_lit 32) x.b)) (Own.tok (nat_lit 1)),
 AV.int IntKind.i64 (↑x.p : Int), AV.ptr (nat_lit 0) (nat_lit 0), AV.int IntKind.i64 n_2, AV.int IntKind.i64 n_3]
 [AV.sl (nat_lit 1) (bytesL bs) Own.no, AV.sl (nat_lit 3) (List.map tokA y.l) (Own.tok (nat_lit 0)),
 AV.sl (nat_lit 2) (List.map pbA (List.take (nat_lit 32) y.b)) (Own.tok (nat_lit 1)),
 AV.int IntKind.i64 (↑y.p : Int), AV.ptr (nat_lit 0) (nat_lit 0), AV.int IntKind.i64 (tokN (List.drop y.p bs)),
 AV.int IntKind.i64 (piece (List.drop y.p bs)).snd.snd] ∧
 StIs
 { boxes := [some [AV.int IntKind.i64 n, AV.str s, AV.int IntKind.i64 n_1]], live := [(x.l.length, nat_lit 38), ((List.take (nat_lit 32) x.b).length, nat_lit 40)] }
 { boxes := [some [AV.int IntKind.i64 (tokTk (List.drop y.p bs) y.p).kind, AV.str (tokTk (List.drop y.p bs) y.p).text, AV.int IntKind.i64 (↑(tokTk (List.drop y.p bs) y.p).at_ : Int)]], live := [(y.l.length, nat_lit 38), ((List.take (nat_lit 32) y.b).length, nat_lit 40)] } ∧
 Inv11 bs y ∧ AV.int IntKind.i64 (↑x.p : Int) = AV.int IntKind.i64 (↑y.p : Int))) ∧
 ∀ (x_1 : X13),
 Inv11 bs x_1 →
 AV.int IntKind.i64 (↑x.p : Int) = AV.int IntKind.i64 (↑x_1.p : Int) →
 ((((piece (List.drop x_1.p bs)).snd.snd == (0 : Int)) = true →
 (nat_lit 3 = nat_lit 3 ∨ List.map tokA x_1.l = []) ∧
 ((List.map tokA x_1.l).length + (1 : Nat)) * nat_lit 33 ≤ nat_lit 70368744177664 ∧
 x_1.l.length = (List.map tokA x_1.l).length ∧
 ∃ (y : X13),
 ValsAre
 [AV.sl (nat_lit 1) (bytesL bs) Own.no,
 AV.sl (nat_lit 3)
 (List.map tokA x_1.l ++
 [AV.agg
 [AV.int IntKind.i64 (tokTk (List.drop x_1.p bs) x_1.p).kind,
 AV.str (tokTk (List.drop x_1.p bs) x_1.p).text,
 AV.int IntKind.i64 (↑(tokTk (List.drop x_1.p bs) x_1.p).at_ : Int)]])
 (Own.tok (nat_lit 0)),
 AV.sl (nat_lit 2) (List.map pbA (List.take (nat_lit 32) x_1.b)) (Own.tok (nat_lit 1)),
 AV.int IntKind.i64 (↑x_1.p : Int), AV.int IntKind.i64 (tokN (List.drop x_1.p bs))]
 [AV.sl (nat_lit 1) (bytesL bs) Own.no, AV.sl (nat_lit 3) (List.map tokA y.l) (Own.tok (nat_lit 0)),
 AV.sl (nat_lit 2) (List.map pbA (List.take (nat_lit 32) y.b)) (Own.tok (nat_lit 1)),
 AV.int IntKind.i64 (↑y.p : Int), AV.int IntKind.i64 (tokN (List.drop y.p bs))] ∧
 StIs
 { boxes := [some [AV.int IntKind.i64 (tokTk (List.drop x_1.p bs) x_1.p).kind, AV.str (tokTk (List.drop x_1.p bs) x_1.p).text, AV.int IntKind.i64 (↑(tokTk (List.drop x_1.p bs) x_1.p).at_ : Int)]], live := [((List.map tokA x_1.l).length + nat_lit 1, nat_lit 38), ((List.take (nat_lit 32) x_1.b).length, nat_lit 40)] }
 { boxes := [some [AV.int IntKind.i64 (tokTk (List.drop y.p bs) y.p).kind, AV.str (tokTk (List.drop y.p bs) y.p).text, AV.int IntKind.i64 (↑(tokTk (List.drop y.p bs) y.p).at_ : Int)]], live := [(y.l.length, nat_lit 38), ((List.take (nat_lit 32) y.b).length, nat_lit 40)] } ∧
 Inv13c bs y ∧ AV.int IntKind.i64 (↑x_1.p : Int) = AV.int IntKind.i64 (↑y.p : Int)) ∧
 (((piece (List.drop x_1.p bs)).snd.snd == (0 : Int)) = false →
 ∃ (y : X13),
 ValsAre
 [AV.sl (nat_lit 1) (bytesL bs) Own.no, AV.sl (nat_lit 3) (List.map tokA x_1.l) (Own.tok (nat_lit 0)),
 AV.sl (nat_lit 2) (List.map pbA (List.take (nat_lit 32) x_1.b)) (Own.tok (nat_lit 1)),
 AV.int IntKind.i64 (↑x_1.p : Int), AV.int IntKind.i64 (tokN (List.drop x_1.p bs))]
 [AV.sl (nat_lit 1) (bytesL bs) Own.no, AV.sl (nat_lit 3) (List.map tokA y.l) (Own.tok (nat_lit 0)),
 AV.sl (nat_lit 2) (List.map pbA (List.take (nat_lit 32) y.b)) (Own.tok (nat_lit 1)),
 AV.int IntKind.i64 (↑y.p : Int), AV.int IntKind.i64 (tokN (List.drop y.p bs))] ∧
 StIs
 { boxes := [some [AV.int IntKind.i64 (tokTk (List.drop x_1.p bs) x_1.p).kind, AV.str (tokTk (List.drop x_1.p bs) x_1.p).text, AV.int IntKind.i64 (↑(tokTk (List.drop x_1.p bs) x_1.p).at_ : Int)]], live := [(x_1.l.length, nat_lit 38), ((List.take (nat_lit 32) x_1.b).length, nat_lit 40)] }
 { boxes := [some [AV.int IntKind.i64 (tokTk (List.drop y.p bs) y.p).kind, AV.str (tokTk (List.drop y.p bs) y.p).text, AV.int IntKind.i64 (↑(tokTk (List.drop y.p bs) y.p).at_ : Int)]], live := [(y.l.length, nat_lit 38), ((List.take (nat_lit 32) y.b).length, nat_lit 40)] } ∧
 Inv13c bs y ∧ AV.int IntKind.i64 (↑x_1.p : Int) = AV.int IntKind.i64 (↑y.p : Int))) ∧
 ∀ (x_2 : X13),
 Inv13c bs x_2 →
 AV.int IntKind.i64 (↑x_1.p : Int) = AV.int IntKind.i64 (↑x_2.p : Int) →
 ∃ (n : Int),
 CallIs
 (tbl [(nat_lit 30, s30), (nat_lit 31, s31)] (nat_lit 30)
 [AV.sl (nat_lit 1) (bytesL bs) Own.no,
 AV.int IntKind.i64 (IntKind.i64.wrap ((↑x_2.p : Int) + max (tokN (List.drop x_2.p bs)) (1 : Int)))])
 (AV.int IntKind.i64 n) [] ∧
 ((tokN (List.drop x_2.p bs) == (0 : Int)) = true →
 ((n == IntKind.i64.wrap ((↑x_2.p : Int) + max (tokN (List.drop x_2.p bs)) (1 : Int))) = true →
 ∃ (y : X13),
 ValsAre
 [AV.sl (nat_lit 1) (bytesL bs) Own.no,
 AV.sl (nat_lit 3) (List.map tokA x_2.l) (Own.tok (nat_lit 0)),
 AV.sl (nat_lit 2) (List.map pbA (List.take (nat_lit 32) x_2.b)) (Own.tok (nat_lit 1)),
 AV.int IntKind.i64 n, AV.bool true]
 [AV.sl (nat_lit 1) (bytesL bs) Own.no,
 AV.sl (nat_lit 3) (List.map tokA y.l) (Own.tok (nat_lit 0)),
 AV.sl (nat_lit 2) (List.map pbA (List.take (nat_lit 32) y.b)) (Own.tok (nat_lit 1)),
 AV.int IntKind.i64 (↑y.p : Int), AV.bool y.adj] ∧
 StIs
 { boxes := [], live := [(x_2.l.length, nat_lit 38), ((List.take (nat_lit 32) x_2.b).length, nat_lit 40)] }
 { boxes := [], live := [(y.l.length, nat_lit 38), ((List.take (nat_lit 32) y.b).length, nat_lit 40)] } ∧
 Inv13 bs y ∧ bs.length - y.p < bs.length - x.p) ∧
 ((n == IntKind.i64.wrap ((↑x_2.p : Int) + max (tokN (List.drop x_2.p bs)) (1 : Int))) = false →
 ∃ (y : X13),
 ValsAre
 [AV.sl (nat_lit 1) (bytesL bs) Own.no,
 AV.sl (nat_lit 3) (List.map tokA x_2.l) (Own.tok (nat_lit 0)),
 AV.sl (nat_lit 2) (List.map pbA (List.take (nat_lit 32) x_2.b)) (Own.tok (nat_lit 1)),
 AV.int IntKind.i64 n, AV.bool false]
 [AV.sl (nat_lit 1) (bytesL bs) Own.no,
 AV.sl (nat_lit 3) (List.map tokA y.l) (Own.tok (nat_lit 0)),
 AV.sl (nat_lit 2) (List.map pbA (List.take (nat_lit 32) y.b)) (Own.tok (nat_lit 1)),
 AV.int IntKind.i64 (↑y.p : Int), AV.bool y.adj] ∧
 StIs
 { boxes := [], live := [(x_2.l.length, nat_lit 38), ((List.take (nat_lit 32) x_2.b).length, nat_lit 40)] }
 { boxes := [], live := [(y.l.length, nat_lit 38), ((List.take (nat_lit 32) y.b).length, nat_lit 40)] } ∧
 Inv13 bs y ∧ bs.length - y.p < bs.length - x.p)) ∧
 ((tokN (List.drop x_2.p bs) == (0 : Int)) = false →
 ∃ (y : X13),
 ValsAre
 [AV.sl (nat_lit 1) (bytesL bs) Own.no,
 AV.sl (nat_lit 3) (List.map tokA x_2.l) (Own.tok (nat_lit 0)),
 AV.sl (nat_lit 2) (List.map pbA (List.take (nat_lit 32) x_2.b)) (Own.tok (nat_lit 1)),
 AV.int IntKind.i64 n, AV.bool false]
 [AV.sl (nat_lit 1) (bytesL bs) Own.no,
 AV.sl (nat_lit 3) (List.map tokA y.l) (Own.tok (nat_lit 0)),
 AV.sl (nat_lit 2) (List.map pbA (List.take (nat_lit 32) y.b)) (Own.tok (nat_lit 1)),
 AV.int IntKind.i64 (↑y.p : Int), AV.bool y.adj] ∧
 StIs
 { boxes := [], live := [(x_2.l.length, nat_lit 38), ((List.take (nat_lit 32) x_2.b).length, nat_lit 40)] }
 { boxes := [], live := [(y.l.length, nat_lit 38), ((List.take (nat_lit 32) y.b).length, nat_lit 40)] } ∧
 Inv13 bs y ∧ bs.length - y.p < bs.length - x.p)) ∧
 (decide ((↑x.p : Int) < (↑(bytesL bs).length : Int)) = false →
 (nat_lit 3 = nat_lit 3 ∨ List.map tokA x.l = []) ∧
 ((List.map tokA x.l).length + (1 : Nat)) * nat_lit 33 ≤ nat_lit 70368744177664 ∧
 x.l.length = (List.map tokA x.l).length ∧
 RetLax
 (AV.tup
 [AV.sl (nat_lit 3)
 (List.map tokA x.l ++ [AV.agg [AV.int IntKind.i64 (6 : Int), AV.str [], AV.int IntKind.i64 (↑(bytesL bs).length : Int)]])
 (Own.tok (nat_lit 0)),
 AV.sl (nat_lit 2) (List.map pbA (List.take (nat_lit 32) x.b)) (Own.tok (nat_lit 1)), AV.int IntKind.i64 (0 : Int)])
 (if bs.length ≤ nat_lit 16384 then
 AV.tup
 [AV.sl (nat_lit 3) (List.map tokA (toksL bs)) Own.no, AV.sl (nat_lit 2) (List.map pbA (probsL bs)) Own.no,
 AV.int IntKind.i64 (0 : Int)]
 else AV.tup [AV.sl (nat_lit 3) [] Own.no, AV.sl (nat_lit 2) [] Own.no, AV.int IntKind.i64 (2 : Int)],
 []))))) := by kernel_rfl
end Go.Abs

namespace Go.Abs
open Go.Proofs L8

theorem p43 (m n : Int) : PureOk PP (G8 m) XR (tbl []) (itbl []) ⟨nA, nA⟩ [] 43 [.int .u8 n] (.bool (decide (n = 9 ∨ n = 10 ∨ n = 13 ∨ n = 32)), []) := by
  constructor
  rw [w43]
  simp only [retIs_iff, Prod.mk.injEq, AV.bool.injEq, and_true, beq_iff_eq, beq_eq_false_iff_ne, ne_eq]
  repeat' (refine And.intro (fun h => ?_) (fun h => ?_))
  all_goals simp [*]
theorem p61 (m : Int) (bs : List UInt8) (a : Nat) (ha : a ≤ bs.length) (hl : bs.length ≤ 1000000) : PureOk PP (G8 m) XR (tbl [(44, s44)]) (itbl []) (a61 bs a) [] 61 [bytesA bs, .int .i64 a] (.int .i64 ((bs.drop a).takeWhile digitB).length, []) := by
  constructor
  rw [w61]
  have t44 : ∀ n : Int, tbl [(44, s44)] 44 [.int .u8 n] = some (.bool (decide (48 ≤ n ∧ n ≤ 57)), []) := fun n => by rw [tbl_hit]; rfl
  have htw := tw_le (p := digitB) (bs.drop a)
  rw [List.length_drop] at htw
  simp only [callIs_iff, valsAre_iff, stIs_iff, retIs_iff, take_u8_iff agg5 size5, Option.some.injEq, Prod.mk.injEq, AV.bool.injEq, AV.int.injEq, List.cons.injEq, and_true, true_and, decide_eq_true_eq, decide_eq_false_iff_not, bytesL_length]
  refine ⟨⟨0, rfl, by omega⟩, fun x hx => ?_⟩
  rw [wrap64_in (n := (a : Int) + x) (by omega) (by omega), wrap64_in (n := (x : Int) + 1) (by omega) (by omega), show ((a : Int) + x).toNat = a + x by omega]
  refine ⟨fun hlt => ⟨⟨by omega, by omega⟩, _, ⟨by omega, rfl⟩, _, rfl, fun hb => ?_, fun hb => ?_⟩, fun hge => ?_⟩
  · have hd : digitB (bs.getD (a + x) 0) = true := by rw [digitB_iff]; have := of_decide_eq_true hb; omega
    exact ⟨x + 1, by omega, tw_next hx (by rw [List.length_drop]; omega) (by rw [getD_drop']; exact hd), by omega⟩
  · have hd : digitB (bs.getD (a + x) 0) = false := by
      cases h : digitB (bs.getD (a + x) 0) with
      | false => rfl
      | true => rw [digitB_iff] at h; have := of_decide_eq_false hb; omega
    have := tw_stop (p := digitB) (l := bs.drop a) (k := x) hx (fun _ => by rw [getD_drop']; exact hd)
    omega
  · have := tw_stop (p := digitB) (l := bs.drop a) (k := x) hx (fun h => by rw [List.length_drop] at h; omega)
    omega
theorem p63 (m : Int) (l : List UInt8) (hl : l.length ≤ 1000000) (hd : l.all digitB = true) : PureOk PP (G8 m) XR (tbl []) (itbl []) (a63 l) [] 63 [.str l] (.bool (decide (2 ^ 60 < valL l)), []) := by
  constructor
  rw [w63]
  simp only [valsAre_iff, stIs_iff, retIs_iff, Prod.mk.injEq, AV.bool.injEq, AV.int.injEq, List.cons.injEq, and_true, true_and, decide_eq_true_eq, decide_eq_false_iff_not, Int.toNat_natCast, gt_iff_lt]
  refine ⟨⟨0, ⟨rfl, rfl⟩, by omega, by simp [valL]⟩, fun x hx => ?_⟩
  obtain ⟨hx1, hx2⟩ := hx
  have hmono : valL (l.take x) ≤ valL l := by
    have e : l = l.take x ++ l.drop x := (List.take_append_drop _ _).symm
    conv => rhs; rw [e]
    rw [valL_eq, valL_eq, valF_append]
    exact valF_ge _ _
  refine ⟨fun hlt => ⟨fun hg => ?_, fun hg => ?_⟩, fun hge => ?_⟩
  · have hlt' : x < l.length := by omega
    have h1 : valL (l.take (x + 1)) = 10 * valL (l.take x) + (l[x].toNat - 48) := by
      rw [List.take_succ_eq_append_getElem hlt', valL_snoc]
    have hmono1 : valL (l.take (x + 1)) ≤ valL l := by
      have e : l = l.take (x + 1) ++ l.drop (x + 1) := (List.take_append_drop _ _).symm
      conv => rhs; rw [e]
      rw [valL_eq, valL_eq, valF_append]
      exact valF_ge _ _
    exact (decide_eq_true (by omega)).symm
  · have hlt' : x < l.length := by omega
    have hdx : 48 ≤ l[x].toNat ∧ l[x].toNat ≤ 57 := by
      rw [List.all_eq_true] at hd
      exact digitB_iff.1 (hd _ (List.getElem_mem hlt'))
    have h1 : valL (l.take (x + 1)) = 10 * valL (l.take x) + (l[x].toNat - 48) := by
      rw [List.take_succ_eq_append_getElem hlt', valL_snoc]
    refine ⟨by omega, l[x], List.getElem?_eq_getElem hlt', ?_⟩
    rw [wrap8_in (by omega) (by omega), wrap64_in (n := 10 * ((valL (l.take x) : Nat) : Int)) (by omega) (by omega), wrap64_in (n := ((l[x].toNat : Nat) : Int) - 48) (by omega) (by omega), wrap64_in (n := (x : Int) + 1) (by omega) (by omega), wrap64_in (by omega) (by omega)]
    exact ⟨x + 1, ⟨by rw [h1]; omega, by omega⟩, ⟨by omega, by rw [h1]; omega⟩, by omega⟩
  · have hx3 : x = l.length := by omega
    subst hx3
    rw [List.take_length]
    by_cases h : 2 ^ 60 < valL l
    · rw [decide_eq_true h]; exact ⟨fun _ => rfl, fun h' => absurd h' (by omega)⟩
    · rw [decide_eq_false h]; exact ⟨fun h' => absurd h' (by omega), fun _ => rfl⟩
theorem blankN (c : UInt8) : decide ((c.toNat : Int) = 9 ∨ (c.toNat : Int) = 10 ∨ (c.toNat : Int) = 13 ∨ (c.toNat : Int) = 32) = blankB c := by
  have e : ∀ n : Nat, n < 256 → ((c.toNat : Int) = n ↔ c = UInt8.ofNat n) := fun n hn => by
    rw [← UInt8.toNat_inj, UInt8.toNat_ofNat', Nat.mod_eq_of_lt (by omega)]; omega
  have e9 := e 9 (by omega)
  have e10 := e 10 (by omega)
  have e13 := e 13 (by omega)
  have e32 := e 32 (by omega)
  simp only [blankB]
  by_cases h1 : c = 9
  · subst h1; rfl
  · by_cases h2 : c = 10
    · subst h2; rfl
    · by_cases h3 : c = 13
      · subst h3; rfl
      · by_cases h4 : c = 32
        · subst h4; rfl
        · have : ¬ ((c.toNat : Int) = 9 ∨ (c.toNat : Int) = 10 ∨ (c.toNat : Int) = 13 ∨ (c.toNat : Int) = 32) := by
            rintro (h | h | h | h)
            · exact h1 (e9.1 h)
            · exact h2 (e10.1 h)
            · exact h3 (e13.1 h)
            · exact h4 (e32.1 h)
          rw [decide_eq_false this]
          simp [h1, h2, h3, h4]
theorem skip_step {cm : Bool} {l : List UInt8} (h : 0 < l.length) (hs : ((cm && l.getD 0 0 != 10) || blankB (l.getD 0 0) || l.getD 0 0 == 35) = true) : skipL cm l = 1 + skipL (l.getD 0 0 != 10 && (cm || l.getD 0 0 == 35)) (l.drop 1) := by
  cases l with
  | nil => simp at h
  | cons c t =>
    have hs' : ((cm && c != 10) || blankB c || c == 35) = true := hs
    simp only [skipL, hs', if_true]
    rfl
theorem skip_stop {cm : Bool} {l : List UInt8} (hs : 0 < l.length → ((cm && l.getD 0 0 != 10) || blankB (l.getD 0 0) || l.getD 0 0 == 35) = false) : skipL cm l = 0 := by
  cases l with
  | nil => simp [skipL]
  | cons c t =>
    have hs' : ((cm && c != 10) || blankB c || c == 35) = false := hs (by simp)
    simp only [skipL, hs']
    rfl
theorem p30 (m : Int) (bs : List UInt8) (a : Nat) (ha : a ≤ bs.length) (hl : bs.length ≤ 1000000) : PureOk PP (G8 m) XR (tbl [(43, s43)]) (itbl []) (a30 bs a) [] 30 [bytesA bs, .int .i64 a] (.int .i64 (a + skipL false (bs.drop a) : Nat), []) := by
  constructor
  rw [w30]
  have t43 : ∀ n : Int, tbl [(43, s43)] 43 [.int .u8 n] = some (.bool (decide (n = 9 ∨ n = 10 ∨ n = 13 ∨ n = 32)), []) := fun n => by rw [tbl_hit]; rfl
  simp only [callIs_iff, valsAre_iff, stIs_iff, retIs_iff, take_u8_iff agg5 size5, Option.some.injEq, Prod.mk.injEq, AV.bool.injEq, AV.int.injEq, List.cons.injEq, and_true, true_and, decide_eq_true_eq, decide_eq_false_iff_not, bytesL_length, Int.toNat_natCast, exists_eq_left', and_assoc, exists_and_left, beq_iff_eq, bne_iff_ne, beq_eq_false_iff_ne, bne_eq_false_iff_eq, ne_eq]
  refine ⟨⟨⟨a, false⟩, rfl, rfl, ha, rfl⟩, fun x hx => ?_⟩
  obtain ⟨hx1, hx2⟩ := hx
  have hgd : (bs.drop x.p).getD 0 0 = bs.getD x.p 0 := by rw [getD_drop', Nat.add_zero]
  have c10 : (bs.getD x.p 0 = 10) ↔ ((bs.getD x.p 0).toNat : Int) = 10 := by
    rw [← UInt8.toNat_inj]; show (bs.getD x.p 0).toNat = 10 ↔ _; omega
  have c35 : (bs.getD x.p 0 = 35) ↔ ((bs.getD x.p 0).toNat : Int) = 35 := by
    rw [← UInt8.toNat_inj]; show (bs.getD x.p 0).toNat = 35 ↔ _; omega
  have hbl := blankN (bs.getD x.p 0)
  have hw : x.p < bs.length → IntKind.i64.wrap ((x.p : Int) + 1) = ((x.p + 1 : Nat) : Int) := fun h => by rw [wrap64_in (by omega) (by omega)]; omega
  have step : ∀ b : Bool, (x.p : Int) < bs.length → (x.cm = true ∨ (((bs.getD x.p 0).toNat : Int) = 9 ∨ ((bs.getD x.p 0).toNat : Int) = 10 ∨ ((bs.getD x.p 0).toNat : Int) = 13 ∨ ((bs.getD x.p 0).toNat : Int) = 32) ∨ ((bs.getD x.p 0).toNat : Int) = 35) → (b = true ↔ ¬ ((bs.getD x.p 0).toNat : Int) = 10 ∧ (x.cm = true ∨ ((bs.getD x.p 0).toNat : Int) = 35)) →
      ∃ y : X30, IntKind.i64.wrap ((x.p : Int) + 1) = y.p ∧ b = y.cm ∧ y.p ≤ bs.length ∧ y.p + skipL y.cm (bs.drop y.p) = a + skipL false (bs.drop a) ∧ bs.length - y.p < bs.length - x.p := fun b hlt hc hb => by
    have hlt' : x.p < bs.length := by omega
    refine ⟨⟨x.p + 1, b⟩, hw hlt', rfl, by simp only; omega, ?_, by simp only; omega⟩
    have hs := skip_step (cm := x.cm) (l := bs.drop x.p) (by rw [List.length_drop]; omega) (by
      rw [hgd, ← hbl]
      simp only [Bool.or_eq_true, Bool.and_eq_true, bne_iff_ne, ne_eq, decide_eq_true_eq, beq_iff_eq, c10, c35]
      rcases hc with h | h | h
      · by_cases h10 : ((bs.getD x.p 0).toNat : Int) = 10
        · exact .inl (.inr (.inr (.inl h10)))
        · exact .inl (.inl ⟨h, h10⟩)
      · exact .inl (.inr h)
      · exact .inr h)
    rw [hgd, List.drop_drop] at hs
    have hbe : b = (bs.getD x.p 0 != 10 && (x.cm || bs.getD x.p 0 == 35)) := by
      rw [Bool.eq_iff_iff, hb]
      simp only [Bool.or_eq_true, Bool.and_eq_true, bne_iff_ne, ne_eq, beq_iff_eq, c10, c35]
    simp only
    rw [hbe, ← hx2, hs]
    omega
  have stop : ¬ ((x.p : Int) < bs.length ∧ (x.cm = true ∨ (((bs.getD x.p 0).toNat : Int) = 9 ∨ ((bs.getD x.p 0).toNat : Int) = 10 ∨ ((bs.getD x.p 0).toNat : Int) = 13 ∨ ((bs.getD x.p 0).toNat : Int) = 32) ∨ ((bs.getD x.p 0).toNat : Int) = 35)) → (x.p : Int) = ((a + skipL false (bs.drop a) : Nat) : Int) := fun h => by
    have hs := skip_stop (cm := x.cm) (l := bs.drop x.p) (fun hl' => by
      rw [hgd, ← hbl]
      rw [List.length_drop] at hl'
      cases hcond : ((x.cm && bs.getD x.p 0 != 10) || decide (((bs.getD x.p 0).toNat : Int) = 9 ∨ ((bs.getD x.p 0).toNat : Int) = 10 ∨ ((bs.getD x.p 0).toNat : Int) = 13 ∨ ((bs.getD x.p 0).toNat : Int) = 32) || bs.getD x.p 0 == 35) with
      | false => rfl
      | true =>
        exfalso
        apply h
        simp only [Bool.or_eq_true, Bool.and_eq_true, bne_iff_ne, ne_eq, decide_eq_true_eq, beq_iff_eq, c35] at hcond
        refine ⟨by omega, ?_⟩
        rcases hcond with (h | h) | h
        · exact .inl h.1
        · exact .inr (.inl h)
        · exact .inr (.inr h))
    rw [hs] at hx2
    omega
  generalize ((bs.getD x.p 0).toNat : Int) = c at *
  refine ⟨fun hcm => ?_, fun hcm => ?_⟩
  · simp only [hcm, true_or, and_true, forall_const] at step stop
    repeat' (first | refine And.intro ?_ ?_ | intro _)
    all_goals first | omega | exact step true (by omega) (by simp; omega) | exact step false (by omega) (by simp; omega) | exact stop (by omega)
  · simp only [hcm, Bool.false_eq_true, false_or] at step stop
    repeat' (first | refine And.intro ?_ ?_ | intro _)
    all_goals first | omega | exact step true (by omega) (by omega) (by simp; omega) | exact step false (by omega) (by omega) (by simp; omega) | exact stop (by omega)
end Go.Abs

namespace Go.Abs
open Go.Proofs L8

def tab2Ok (n : Nat) : Bool :=
  let c := UInt8.ofNat n
  (eqB c == decide ((n : Int) = 61 ∨ (n : Int) = 33 ∨ (n : Int) = 60)) && (signB c == decide ((n : Int) ∈ ([123, 125, 40, 41, 91, 93, 44, 58, 59, 61, 60, 43, 45, 42, 47, 94, 64] : List Int)))
theorem tab2_ok : (List.range 256).all tab2Ok = true := by decide +kernel
theorem eqN (c : UInt8) : eqB c = decide ((c.toNat : Int) = 61 ∨ (c.toNat : Int) = 33 ∨ (c.toNat : Int) = 60) := by
  have h := List.all_eq_true.1 tab2_ok c.toNat (List.mem_range.2 c.toNat_lt)
  simp only [tab2Ok, Bool.and_eq_true, beq_iff_eq, UInt8.ofNat_toNat] at h
  exact h.1
theorem signN (c : UInt8) : signB c = decide ((c.toNat : Int) ∈ ([123, 125, 40, 41, 91, 93, 44, 58, 59, 61, 60, 43, 45, 42, 47, 94, 64] : List Int)) := by
  have h := List.all_eq_true.1 tab2_ok c.toNat (List.mem_range.2 c.toNat_lt)
  simp only [tab2Ok, Bool.and_eq_true, beq_iff_eq, UInt8.ofNat_toNat] at h
  exact h.2
theorem p47 (m : Int) (bs : List UInt8) (a : Nat) (ha : a < bs.length) (hl : bs.length ≤ 1000000) : PureOk PP (G8 m) XR (tbl []) (itbl []) ⟨nA, nA⟩ [] 47 [bytesA bs, .int .i64 a] (.int .i64 (signLen (bs.drop a)), []) := by
  constructor
  rw [w47]
  have hct : bs.drop a = bs.getD a 0 :: bs.drop (a + 1) := by
    rw [List.drop_eq_getElem_cons ha]; simp [ha]
  have hh : (bs.drop (a + 1)).head?.getD 0 = bs.getD (a + 1) 0 := by rw [List.head?_drop, List.getD_eq_getElem?_getD]
  have hs : signLen (bs.drop a) = if eqB (bs.getD a 0) && (bs.getD (a + 1) 0 == 61) then 2 else if signB (bs.getD a 0) then 1 else 0 := by rw [hct]; simp only [signLen, hh]
  have hnx : bs.length ≤ a + 1 → bs.getD (a + 1) 0 = 0 := fun h => by simp [h]
  have h61 : (bs.getD (a + 1) 0 = 61) ↔ ((bs.getD (a + 1) 0).toNat : Int) = 61 := by
    rw [← UInt8.toNat_inj]; show (bs.getD (a + 1) 0).toNat = 61 ↔ _; omega
  have he : eqB (bs.getD a 0) = decide (((bs.getD a 0).toNat : Int) = 61 ∨ ((bs.getD a 0).toNat : Int) = 33 ∨ ((bs.getD a 0).toNat : Int) = 60) := eqN _
  have hg : signB (bs.getD a 0) = decide (((bs.getD a 0).toNat : Int) ∈ ([123, 125, 40, 41, 91, 93, 44, 58, 59, 61, 60, 43, 45, 42, 47, 94, 64] : List Int)) := signN _
  rw [hs]
  clear hs hct hh
  simp only [retIs_iff, take_u8_iff agg5 size5, Prod.mk.injEq, AV.int.injEq, and_true, true_and, decide_eq_true_eq, decide_eq_false_iff_not, bytesL_length, Int.toNat_natCast, exists_eq_left', and_assoc, exists_and_left, beq_iff_eq, beq_eq_false_iff_ne, ne_eq]
  rw [wrap64_in (n := (a : Int) + 1) (by omega) (by omega), show ((a : Int) + 1).toNat = a + 1 by omega]
  have r2 : ((bs.getD (a + 1) 0).toNat : Int) = 61 → (((bs.getD a 0).toNat : Int) = 61 ∨ ((bs.getD a 0).toNat : Int) = 33 ∨ ((bs.getD a 0).toNat : Int) = 60) → (if (eqB (bs.getD a 0) && (bs.getD (a + 1) 0 == 61)) = true then (2 : Int) else if signB (bs.getD a 0) = true then 1 else 0) = 2 := fun h1 h2 => by
    rw [if_pos]; rw [he, h61.2 h1, decide_eq_true h2]; rfl
  have r1 : ¬ (((bs.getD (a + 1) 0).toNat : Int) = 61 ∧ (((bs.getD a 0).toNat : Int) = 61 ∨ ((bs.getD a 0).toNat : Int) = 33 ∨ ((bs.getD a 0).toNat : Int) = 60)) → (if (eqB (bs.getD a 0) && (bs.getD (a + 1) 0 == 61)) = true then (2 : Int) else if signB (bs.getD a 0) = true then 1 else 0) = if signB (bs.getD a 0) = true then 1 else 0 := fun h => by
    rw [if_neg]; rw [he]; simp only [Bool.and_eq_true, decide_eq_true_eq, beq_iff_eq, h61]; exact fun h' => h ⟨h'.2, h'.1⟩
  have hnx' : ¬ ((a : Int) + 1 < bs.length) → ¬ ((bs.getD (a + 1) 0).toNat : Int) = 61 := fun h => by rw [hnx (by omega)]; decide
  generalize (if (eqB (bs.getD a 0) && (bs.getD (a + 1) 0 == 61)) = true then (2 : Int) else if signB (bs.getD a 0) = true then 1 else 0) = r at *
  rw [hg] at r1
  clear hnx h61 he hg
  generalize ((bs.getD (a + 1) 0).toNat : Int) = d at *
  generalize ((bs.getD a 0).toNat : Int) = c at *
  have r1' : ¬ (d = 61 ∧ (c = 61 ∨ c = 33 ∨ c = 60)) → c ∈ ([123, 125, 40, 41, 91, 93, 44, 58, 59, 61, 60, 43, 45, 42, 47, 94, 64] : List Int) → r = 1 := fun h h2 => by
    rw [r1 h, decide_eq_true h2]; rfl
  have r0' : ¬ (d = 61 ∧ (c = 61 ∨ c = 33 ∨ c = 60)) → ¬ c ∈ ([123, 125, 40, 41, 91, 93, 44, 58, 59, 61, 60, 43, 45, 42, 47, 94, 64] : List Int) → r = 0 := fun h h2 => by
    rw [r1 h, decide_eq_false h2]; rfl
  clear r1
  simp only [List.mem_cons, List.not_mem_nil, or_false] at r1' r0'
  repeat' (first | refine And.intro ?_ ?_ | intro _)
  all_goals omega
end Go.Abs

namespace Go.Abs
open Go.Proofs L8

theorem dig_not {c : UInt8} (hd : digitB c = true) : ¬ blankB c = true ∧ ¬ (c == 35) = true ∧ ¬ letterB c = true := by
  have h := cls_is c
  have h3 := h.b3.2 hd
  refine ⟨fun h1 => ?_, fun h1 => ?_, fun h1 => ?_⟩
  · have := h.b1.2 h1; omega
  · have := h.b6.2 h1; omega
  · have := h.b2.2 h1; omega
theorem tw_dig {c : UInt8} {t : List UInt8} (hd : digitB c = true) : ((c :: t).takeWhile digitB).length = 1 + (t.takeWhile digitB).length := by
  rw [List.takeWhile_cons, if_pos hd, List.length_cons]; omega
theorem piece_int {c : UInt8} {t : List UInt8} (hd : digitB c = true) (hno : ∀ u, (c :: t).drop ((c :: t).takeWhile digitB).length = 46 :: u → (u.takeWhile digitB).length = 0) :
    piece (c :: t) = (2, ((c :: t).takeWhile digitB).length, intErr ((c :: t).take ((c :: t).takeWhile digitB).length)) := by
  obtain ⟨h1, h2, h3⟩ := dig_not hd
  rw [tw_dig hd] at hno ⊢
  simp only [piece]; rw [if_neg h1, if_neg h2, if_neg h3, if_pos hd]
  split
  · rename_i u hu
    rw [if_pos (hno u hu)]
  · rfl
theorem piece_dec {c : UInt8} {t u : List UInt8} (hd : digitB c = true) (hu : (c :: t).drop ((c :: t).takeWhile digitB).length = 46 :: u) (hm : (u.takeWhile digitB).length ≠ 0) :
    piece (c :: t) = (3, ((c :: t).takeWhile digitB).length + 1 + (u.takeWhile digitB).length, decErr ((c :: t).take (((c :: t).takeWhile digitB).length + 1 + (u.takeWhile digitB).length))) ∧
      decB ((c :: t).take (((c :: t).takeWhile digitB).length + 1 + (u.takeWhile digitB).length)) = true := by
  obtain ⟨h1, h2, h3⟩ := dig_not hd
  constructor
  · rw [tw_dig hd] at hu ⊢
    simp only [piece]; rw [if_neg h1, if_neg h2, if_neg h3, if_pos hd, hu]
    simp only
    rw [if_neg hm]
  · have e : (c :: t) = (c :: t).takeWhile digitB ++ 46 :: u := by
      conv => lhs; rw [← List.take_append_drop ((c :: t).takeWhile digitB).length (c :: t), take_tw, hu]
    have e1 : (c :: t).take (((c :: t).takeWhile digitB).length + 1 + (u.takeWhile digitB).length) = (c :: t).takeWhile digitB ++ 46 :: u.takeWhile digitB := by
      conv => lhs; rw [e]
      rw [List.take_append]
      have hself : ((c :: t).takeWhile digitB ++ 46 :: u).takeWhile digitB = (c :: t).takeWhile digitB := tw_append (takeWhile_all _ _) _
      rw [hself, List.take_of_length_le (by omega), show ((c :: t).takeWhile digitB).length + 1 + (u.takeWhile digitB).length - ((c :: t).takeWhile digitB).length = (u.takeWhile digitB).length + 1 by omega, List.take_succ_cons, take_tw]
    rw [e1]
    exact decB_mk (takeWhile_all _ _) (by rw [List.takeWhile_cons, if_pos hd]; simp) (takeWhile_all _ _) (by intro e; rw [e] at hm; simp at hm)
theorem p45 (m : Int) (bs : List UInt8) (a : Nat) (ha : a < bs.length) (hl : bs.length ≤ 1000000) (hd : digitB (bs.getD a 0) = true) : PureOk PP (G8 m) XR (tbl [(61, s61), (62, s51), (63, s63)]) (itbl []) ⟨nA, nA⟩ [] 45 [bytesA bs, .int .i64 a] (tokR (bs.drop a) a, []) := by
  constructor
  rw [w45]
  have hct : bs.drop a = bs.getD a 0 :: bs.drop (a + 1) := by
    rw [List.drop_eq_getElem_cons ha]; simp [ha]
  have t61 : ∀ j : Nat, j ≤ bs.length → tbl [(61, s61), (62, s51), (63, s63)] 61 [bytesA bs, .int .i64 j] = some (.int .i64 ((bs.drop j).takeWhile digitB).length, []) := fun j hj => by
    rw [tbl_hit]; exact sAt_eq hj hl trivial
  have t62 : ∀ l : List UInt8, l.length ≤ 1000000 → tbl [(61, s61), (62, s51), (63, s63)] 62 [.str l] = some (.tup [.int .i64 (decP l).1, .int .i64 (decP l).2], []) := fun l hl' => by
    rw [tbl_miss (fun h => absurd h (by decide)), tbl_hit]; simp only [s51]; rw [if_pos hl']
  have t63 : ∀ l : List UInt8, l.length ≤ 1000000 → l.all digitB = true → tbl [(61, s61), (62, s51), (63, s63)] 63 [.str l] = some (.bool (decide (2 ^ 60 < valL l)), []) := fun l hl' hd' => by
    rw [tbl_miss (fun h => absurd h (by decide)), tbl_miss (fun h => absurd h (by decide)), tbl_hit]; simp only [s63]; rw [if_pos ⟨hl', hd'⟩]
  have hNl := tw_le (p := digitB) (bs.drop a)
  rw [List.length_drop] at hNl
  have hN0 : 0 < ((bs.drop a).takeWhile digitB).length := by rw [hct, tw_dig hd]; omega
  have hpi : (∀ u, (bs.drop a).drop ((bs.drop a).takeWhile digitB).length = 46 :: u → (u.takeWhile digitB).length = 0) → piece (bs.drop a) = (2, ((bs.drop a).takeWhile digitB).length, intErr ((bs.drop a).take ((bs.drop a).takeWhile digitB).length)) := by
    rw [hct]; exact piece_int hd
  have hpd : ∀ u, (bs.drop a).drop ((bs.drop a).takeWhile digitB).length = 46 :: u → (u.takeWhile digitB).length ≠ 0 → piece (bs.drop a) = (3, ((bs.drop a).takeWhile digitB).length + 1 + (u.takeWhile digitB).length, decErr ((bs.drop a).take (((bs.drop a).takeWhile digitB).length + 1 + (u.takeWhile digitB).length))) ∧
      decB ((bs.drop a).take (((bs.drop a).takeWhile digitB).length + 1 + (u.takeWhile digitB).length)) = true := fun u hu hm => by
    rw [hct] at hu ⊢; exact piece_dec hd hu hm
  have htk : (bs.drop a).take ((bs.drop a).takeWhile digitB).length = (bs.drop a).takeWhile digitB := take_tw _
  generalize hNN : ((bs.drop a).takeWhile digitB).length = N at *
  have hw : IntKind.i64.wrap ((a : Int) + N) = ((a + N : Nat) : Int) := by rw [wrap64_in (by omega) (by omega)]; omega
  have hw2 : a + N < bs.length → IntKind.i64.wrap (((a + N : Nat) : Int) + 1) = ((a + N + 1 : Nat) : Int) := fun h => by rw [wrap64_in (by omega) (by omega)]; omega
  simp only [callIs_iff, t61 a (by omega), hNN, hw, retIs_iff, take_u8_iff agg5 size5, Option.some.injEq, Prod.mk.injEq, AV.int.injEq, AV.tup.injEq, AV.agg.injEq, AV.str.injEq, List.cons.injEq, and_true, true_and, decide_eq_true_eq, decide_eq_false_iff_not, bytesL_length, Int.toNat_natCast, exists_eq_left', and_assoc, exists_and_left, beq_iff_eq, beq_eq_false_iff_ne, ne_eq, gt_iff_lt, true_or, Bool.false_eq_true, false_implies, forall_const]
  have ib : (∀ u, (bs.drop a).drop N = 46 :: u → (u.takeWhile digitB).length = 0) → (0 : Int) ≤ a ∧ (0 : Int) ≤ ((a + N : Nat) : Int) ∧ a ≤ a + N ∧ a + N ≤ bs.length ∧ ∃ l, List.mapM byteOf (((bytesL bs).take (a + N)).drop a) = some l ∧ ∃ b, tbl [(61, s61), (62, s51), (63, s63)] 63 [AV.str l] = some (AV.bool b, []) ∧ (b = true → 0 = (tokTk (bs.drop a) a).kind ∧ [] = (tokTk (bs.drop a) a).text ∧ (0 : Int) = ((tokTk (bs.drop a) a).at_ : Int) ∧ (N : Int) = tokN (bs.drop a) ∧ 2 = (piece (bs.drop a)).2.2) ∧ (b = false → 2 = (tokTk (bs.drop a) a).kind ∧ l = (tokTk (bs.drop a) a).text ∧ (a : Int) = ((tokTk (bs.drop a) a).at_ : Int) ∧ (N : Int) = tokN (bs.drop a) ∧ 0 = (piece (bs.drop a)).2.2) := fun hno => by
    have hp := hpi hno
    refine ⟨by omega, by omega, by omega, by omega, _, by rw [drop_take_bytes, List.drop_take, Nat.add_sub_cancel_left]; exact mapByte _, _, t63 _ (by rw [List.length_take]; omega) (by rw [htk]; exact takeWhile_all _ _), fun hb => ?_, fun hb => ?_⟩
    · have he : intErr ((bs.drop a).take N) = 2 := by simp only [intErr]; rw [if_pos (of_decide_eq_true hb)]
      have e1 : tokTk (bs.drop a) a = ⟨0, [], 0⟩ := by simp [tokTk, hp, he]
      have e2 : tokN (bs.drop a) = N := by simp [tokN, hp]
      have e3 : (piece (bs.drop a)).2.2 = 2 := by rw [hp, he]
      rw [e1, e2, e3]
      exact ⟨rfl, rfl, rfl, rfl, rfl⟩
    · have he : intErr ((bs.drop a).take N) = 0 := by simp only [intErr]; rw [if_neg (of_decide_eq_false hb)]
      have e1 : tokTk (bs.drop a) a = ⟨2, (bs.drop a).take N, a⟩ := by simp [tokTk, txtOf, hp, he]
      have e2 : tokN (bs.drop a) = N := by simp [tokN, hp]
      have e3 : (piece (bs.drop a)).2.2 = 0 := by rw [hp, he]
      rw [e1, e2, e3]
      exact ⟨rfl, rfl, rfl, rfl, rfl⟩
  have hg : (bs.drop a).drop N = bs.drop (a + N) := by rw [List.drop_drop]
  refine ⟨fun hlt => ⟨by omega, by omega, by omega, fun h46 => ?_, fun h46 => ?_⟩, fun hge => ?_⟩
  · have hlt' : a + N < bs.length := by omega
    have hcu : (bs.drop a).drop N = 46 :: bs.drop (a + N + 1) := by
      rw [hg, List.drop_eq_getElem_cons hlt']
      have : bs[a + N] = 46 := by
        rw [← UInt8.toNat_inj]
        have h9 : bs.getD (a + N) 0 = bs[a + N] := by rw [List.getD_eq_getElem?_getD, List.getElem?_eq_getElem hlt', Option.getD_some]
        rw [← h9]; show (bs.getD (a + N) 0).toNat = 46; omega
      rw [this]
    rw [hw2 hlt', t61 (a + N + 1) (by omega)]
    have hMl := tw_le (p := digitB) (bs.drop (a + N + 1))
    rw [List.length_drop] at hMl
    refine ⟨_, rfl, fun hm => ?_, fun hm => ib fun u hu => ?_⟩
    · obtain ⟨hp, hdec⟩ := hpd _ hcu (by omega)
      generalize hM : ((bs.drop (a + N + 1)).takeWhile digitB).length = M at *
      have hw3 : IntKind.i64.wrap (((a + N + 1 : Nat) : Int) + M) = ((a + (N + 1 + M) : Nat) : Int) := by rw [wrap64_in (by omega) (by omega)]; omega
      rw [hw3]
      simp only [Int.toNat_natCast]
      have hlen : ((bs.drop a).take (N + 1 + M)).length = N + 1 + M := by rw [List.length_take, List.length_drop]; omega
      have hdp := decP_decB hdec
      refine ⟨by omega, by omega, by omega, by omega, _, by rw [drop_take_bytes, List.drop_take, Nat.add_sub_cancel_left]; exact mapByte _, _, _, t62 _ (by omega), ?_⟩
      have e1 : tokTk (bs.drop a) a = ⟨3, (bs.drop a).take (N + 1 + M), a⟩ := by simp [tokTk, txtOf, hp]
      have e2 : tokN (bs.drop a) = ((N + 1 + M : Nat) : Int) := by simp [tokN, hp]
      have e3 : (piece (bs.drop a)).2.2 = decErr ((bs.drop a).take (N + 1 + M)) := by rw [hp]
      rw [hlen, hdp, e1, e2, e3]
      exact ⟨rfl, rfl, rfl, rfl, rfl⟩
    · rw [hcu] at hu
      injection hu with _ hu
      rw [← hu]; omega
  · refine ib fun u hu => ?_
    exfalso
    rw [hg] at hu
    have h9 : bs.getD (a + N) 0 = 46 := by
      have := getD_drop' (bs := bs) (i := a + N) (k := 0)
      rw [hu] at this
      exact this.symm
    rw [h9] at h46
    exact h46 rfl
  · refine ib fun u hu => ?_
    exfalso
    have := congrArg List.length hu
    rw [List.length_drop, List.length_drop, List.length_cons] at this
    omega
end Go.Abs

namespace Go.Abs
open Go.Proofs L8

theorem p46 (m : Int) (bs : List UInt8) (a : Nat) (ha : a < bs.length) (hl : bs.length ≤ 1000000) (hd : bs.getD a 0 = 34) : PureOk PP (G8 m) XR (tbl []) (itbl []) (a46 bs a) [] 46 [bytesA bs, .int .i64 a] (tokR (bs.drop a) a, []) := by
  constructor
  rw [w46]
  have hct : bs.drop a = 34 :: bs.drop (a + 1) := by
    rw [List.drop_eq_getElem_cons ha]; have h9 : bs.getD a 0 = bs[a] := by simp [ha]
    rw [← h9, hd]
  have hLl := tw_le (p := lineB) (bs.drop (a + 1))
  rw [List.length_drop] at hLl
  have htt := take_tw (p := lineB) (bs.drop (a + 1))
  generalize hW : (bs.drop (a + 1)).takeWhile lineB = W at *
  have hw1 : IntKind.i64.wrap ((a : Int) + 1) = ((a + 1 : Nat) : Int) := by rw [wrap64_in (by omega) (by omega)]; omega
  simp only [hw1, valsAre_iff, stIs_iff, retIs_iff, take_u8_iff agg5 size5, Prod.mk.injEq, AV.int.injEq, AV.tup.injEq, AV.agg.injEq, AV.str.injEq, List.cons.injEq, and_true, true_and, decide_eq_true_eq, decide_eq_false_iff_not, bytesL_length, Int.toNat_natCast, exists_eq_left', and_assoc, exists_and_left, beq_iff_eq, bne_iff_ne, beq_eq_false_iff_ne, bne_eq_false_iff_eq, ne_eq, gt_iff_lt, true_or, forall_const]
  have hwx : ∀ x : Nat, x ≤ W.length → IntKind.i64.wrap ((a : Int) + ((1 + x : Nat) : Int)) = ((a + 1 + x : Nat) : Int) := fun x hx => by rw [wrap64_in (by omega) (by omega)]; omega
  have hwy : ∀ x : Nat, x ≤ W.length → IntKind.i64.wrap (((1 + x : Nat) : Int) + 1) = ((1 + (x + 1) : Nat) : Int) := fun x hx => by rw [wrap64_in (by omega) (by omega)]; omega
  have hq34 : ((34 : UInt8) == 34) = true := rfl
  have hquo : ((bs.drop (a + 1)).drop W.length).head? = some 34 → piece (bs.drop a) = (4, W.length + 2, txtErr W) := fun h => by
    rw [hct]
    cases hdr : (bs.drop (a + 1)).drop W.length with
    | nil => rw [hdr] at h; cases h
    | cons c u =>
      rw [hdr] at h
      simp only [List.head?_cons, Option.some.injEq] at h
      subst h
      simp only [piece, hW]
      rw [if_neg (by decide), if_neg (by decide), if_neg (by decide), if_neg (by decide), if_pos hq34, hdr]
      rfl
  have hun : ¬ ((bs.drop (a + 1)).drop W.length).head? = some 34 → piece (bs.drop a) = (-1, 1, 80) := fun h => by
    rw [hct]
    have hno : ∀ u, (bs.drop (a + 1)).drop W.length ≠ 34 :: u := fun u hu => h (by rw [hu]; rfl)
    simp only [piece, hW]
    rw [if_neg (by decide), if_neg (by decide), if_neg (by decide), if_neg (by decide), if_pos hq34]
  have un : ¬ ((bs.drop (a + 1)).drop W.length).head? = some 34 → 0 = (tokTk (bs.drop a) a).kind ∧ [] = (tokTk (bs.drop a) a).text ∧ (0 : Int) = ((tokTk (bs.drop a) a).at_ : Int) ∧ 0 = tokN (bs.drop a) ∧ 80 = (piece (bs.drop a)).2.2 := fun h => by
    have hp := hun h
    have e1 : tokTk (bs.drop a) a = ⟨0, [], 0⟩ := by simp [tokTk, hp]
    have e2 : tokN (bs.drop a) = 0 := by simp [tokN, hp]
    rw [e1, e2, hp]
    exact ⟨rfl, rfl, rfl, rfl, rfl⟩
  have hgx : ∀ x, bs.getD (a + 1 + x) 0 = (bs.drop (a + 1)).getD x 0 := fun x => getD_drop'.symm
  have hline : ∀ c : UInt8, lineB c = true ↔ ¬ (c.toNat : Int) = 34 ∧ ¬ (c.toNat : Int) = 10 := fun c => by
    have h1 : c = 34 ↔ (c.toNat : Int) = 34 := by rw [← UInt8.toNat_inj]; show c.toNat = 34 ↔ _; omega
    have h2 : c = 10 ↔ (c.toNat : Int) = 10 := by rw [← UInt8.toNat_inj]; show c.toNat = 10 ↔ _; omega
    simp only [lineB, Bool.and_eq_true, bne_iff_ne, ne_eq, h1, h2]
  have hlf : ∀ c : UInt8, lineB c = false ↔ (c.toNat : Int) = 34 ∨ (c.toNat : Int) = 10 := fun c => by
    cases h : lineB c with
    | true => rw [hline] at h; simp; omega
    | false => simp; by_cases h3 : (c.toNat : Int) = 34; exact .inl h3; by_cases h4 : (c.toNat : Int) = 10; exact .inr h4; rw [(hline c).2 ⟨h3, h4⟩] at h; cases h
  refine ⟨⟨0, by omega, by omega⟩, fun x hx => ?_, fun h => ?_, fun h => ?_, fun h34 => ?_⟩
  · rw [hwx x hx, hwy x hx]
    simp only [Int.toNat_natCast, hgx]
    have hstop : (x < (bs.drop (a + 1)).length → lineB ((bs.drop (a + 1)).getD x 0) = false) → ∃ _ : Unit, ((1 + x : Nat) : Int) = ((1 + W.length : Nat) : Int) := fun h => by
      have := tw_stop (p := lineB) (l := bs.drop (a + 1)) (k := x) (by rw [hW]; exact hx) h
      rw [hW] at this
      exact ⟨(), by omega⟩
    have hln : (bs.drop (a + 1)).length = bs.length - (a + 1) := by simp
    refine ⟨fun hlt => ⟨by omega, by omega, by omega, fun h34 => ⟨by omega, by omega, by omega, fun h10 => ⟨x + 1, rfl, ?_, by omega⟩, fun h10 => hstop fun _ => (hlf _).2 (.inr h10)⟩, fun h34 => hstop fun _ => (hlf _).2 (.inl h34)⟩, fun hge => hstop fun h => by omega⟩
    have := tw_next (p := lineB) (l := bs.drop (a + 1)) (k := x) (by rw [hW]; exact hx) (by omega) ((hline _).2 ⟨h34, h10⟩)
    rw [hW] at this
    exact this
  · rw [hwx _ (Nat.le_refl _)] at h
    refine un fun h' => ?_
    have : (bs.drop (a + 1)).drop W.length = [] := by apply List.drop_of_length_le; rw [List.length_drop]; omega
    rw [this] at h'; cases h'
  · rw [hwx _ (Nat.le_refl _)] at h ⊢
    simp only [Int.toNat_natCast, hgx]
    have hlt : W.length < (bs.drop (a + 1)).length := by rw [List.length_drop]; omega
    have hhd : ((bs.drop (a + 1)).drop W.length).head? = some ((bs.drop (a + 1)).getD W.length 0) := by
      rw [List.head?_drop, List.getD_eq_getElem?_getD, List.getElem?_eq_getElem hlt]; rfl
    have hat := tw_at (p := lineB) (l := bs.drop (a + 1)) (by rw [hW]; exact hlt)
    rw [hW, hlf] at hat
    refine ⟨by omega, by omega, by omega, fun h10 => un fun h' => ?_, fun h10 => ⟨(), ?_⟩⟩
    · rw [hhd] at h'
      injection h' with h'
      rw [h'] at h10
      exact absurd h10 (by decide)
    · rw [hhd]
      congr 1
      rw [← UInt8.toNat_inj]
      show ((bs.drop (a + 1)).getD W.length 0).toNat = 34
      omega
  · have hp := hquo h34
    have hlt : W.length < (bs.drop (a + 1)).length := by
      rcases Nat.lt_or_ge W.length (bs.drop (a + 1)).length with h | h
      · exact h
      · rw [List.drop_of_length_le h] at h34; cases h34
    rw [List.length_drop] at hlt
    rw [hwx _ (Nat.le_refl _), hwy _ (Nat.le_refl _)]
    simp only [Int.toNat_natCast]
    have e2 : ((1 + (W.length + 1) : Nat) : Int) = tokN (bs.drop a) := by simp [tokN, hp]; omega
    have bad : ∀ e : Int, e ≠ 0 → txtErr W = e → 0 = (tokTk (bs.drop a) a).kind ∧ [] = (tokTk (bs.drop a) a).text ∧ (0 : Int) = ((tokTk (bs.drop a) a).at_ : Int) ∧ ((1 + (W.length + 1) : Nat) : Int) = tokN (bs.drop a) ∧ e = (piece (bs.drop a)).2.2 := fun e he het => by
      have e1 : tokTk (bs.drop a) a = ⟨0, [], 0⟩ := by simp [tokTk, hp, het, he]
      rw [e1, ← e2, hp, het]
      exact ⟨rfl, rfl, rfl, rfl, rfl⟩
    refine ⟨by omega, by omega, by omega, by omega, W, ?_, fun h => bad 2 (by decide) (by simp only [txtErr]; rw [if_pos (by omega)]), fun h => ⟨rfl, ⟨0, rfl, by omega, by simp⟩, fun x hx => ?_⟩⟩
    · rw [drop_take_bytes, List.drop_take, Nat.add_sub_cancel_left, htt]
      exact mapByte _
    · obtain ⟨hx1, hx2⟩ := hx
      refine ⟨fun hlt2 => ?_, fun hge => ?_⟩
      · have hxl : x < W.length := by omega
        have hbad : badB (W.getD x 0) = (decide ((W.getD x 0).toNat < 32) || decide (126 < (W.getD x 0).toNat) || (W.getD x 0) == 92) := rfl
        have h92 : (W.getD x 0) = 92 ↔ (W.getD x 0).toNat = 92 := by rw [← UInt8.toNat_inj]; rfl
        have hnx := any_take_succ (p := badB) hxl
        have hget : badB (W.getD x 0) = true → W.any badB = true := any_of_get hxl
        have hsome : W[x]? = some (W.getD x 0) := by simp [hxl]
        generalize W.getD x 0 = c at *
        have fin : badB c = true → _ := fun hb => bad 3 (by decide) (by simp only [txtErr]; rw [if_neg (by omega), if_pos (hget hb)])
        refine ⟨by omega, c, hsome, fun h1 => fin (by rw [hbad]; simp; omega), fun h1 => ⟨by omega, c, hsome, fun h2 => fin (by rw [hbad]; simp; omega), fun h2 => ⟨by omega, c, hsome, fun h3 => fin (by rw [hbad]; simp only [Bool.or_eq_true, decide_eq_true_eq, beq_iff_eq, h92]; omega), fun h3 => ⟨x + 1, by rw [wrap64_in (by omega) (by omega)]; omega, by omega, ?_, by omega⟩⟩⟩⟩
        rw [hnx, hx2, hbad]
        have : ¬ c = 92 := by rw [h92]; omega
        simp [this]
        omega
      · have hxe : x = W.length := by omega
        subst hxe
        rw [List.take_length] at hx2
        have het : txtErr W = 0 := by simp only [txtErr]; rw [if_neg (by omega), if_neg (by simp [hx2])]
        have htx : txtOf (bs.drop a) = W := by
          rw [txtOf, hp, if_pos rfl, hct]
          simp only [List.take_succ_cons, List.drop_succ_cons, List.drop_zero, Nat.add_sub_cancel]
          rw [List.take_take, show min W.length (W.length + 1) = W.length by omega, htt]
        have e1 : tokTk (bs.drop a) a = ⟨4, W, a⟩ := by simp [tokTk, hp, het, htx]
        rw [e1, ← e2, hp, het]
        exact ⟨rfl, rfl, rfl, rfl, rfl⟩
end Go.Abs

namespace Go.Abs
open Go.Proofs L8

theorem p31 (m : Int) (bs : List UInt8) (a : Nat) (ha : a < bs.length) (hl : bs.length ≤ 1000000) (hd : noSkip (bs.getD a 0) = true) : PureOk PP (G8 m) XR (tbl [(33, s33t), (44, s44), (45, s45), (46, s46), (47, s47)]) (itbl []) ⟨nA, nA⟩ [] 31 [bytesA bs, .int .i64 a] (tokR (bs.drop a) a, []) := by
  constructor
  rw [w31]
  have hct : bs.drop a = bs.getD a 0 :: bs.drop (a + 1) := by
    rw [List.drop_eq_getElem_cons ha]; simp [ha]
  have t33 : tbl [(33, s33t), (44, s44), (45, s45), (46, s46), (47, s47)] 33 [bytesA bs, .int .i64 a] = some (.int .i64 (wl (bs.drop a)), []) := by rw [tbl_hit]; exact sAt_eq (by omega) hl ha
  have t44 : ∀ n : Int, tbl [(33, s33t), (44, s44), (45, s45), (46, s46), (47, s47)] 44 [.int .u8 n] = some (.bool (decide (48 ≤ n ∧ n ≤ 57)), []) := fun n => by rw [tbl_miss (fun h => absurd h (by decide)), tbl_hit]; rfl
  have t45 : digitB (bs.getD a 0) = true → tbl [(33, s33t), (44, s44), (45, s45), (46, s46), (47, s47)] 45 [bytesA bs, .int .i64 a] = some (tokR (bs.drop a) a, []) := fun h => by
    rw [tbl_miss (fun h => absurd h (by decide)), tbl_miss (fun h => absurd h (by decide)), tbl_hit]; exact sAt_eq (by omega) hl ⟨ha, h⟩
  have t46 : bs.getD a 0 = 34 → tbl [(33, s33t), (44, s44), (45, s45), (46, s46), (47, s47)] 46 [bytesA bs, .int .i64 a] = some (tokR (bs.drop a) a, []) := fun h => by
    rw [tbl_miss (fun h => absurd h (by decide)), tbl_miss (fun h => absurd h (by decide)), tbl_miss (fun h => absurd h (by decide)), tbl_hit]; exact sAt_eq (by omega) hl ⟨ha, h⟩
  have t47 : tbl [(33, s33t), (44, s44), (45, s45), (46, s46), (47, s47)] 47 [bytesA bs, .int .i64 a] = some (.int .i64 (signLen (bs.drop a)), []) := by
    rw [tbl_miss (fun h => absurd h (by decide)), tbl_miss (fun h => absurd h (by decide)), tbl_miss (fun h => absurd h (by decide)), tbl_miss (fun h => absurd h (by decide)), tbl_hit]; exact sAt_eq (by omega) hl ha
  simp only [callIs_iff, t33, t47, retIs_iff, take_u8_iff agg5 size5, Option.some.injEq, Prod.mk.injEq, AV.bool.injEq, AV.int.injEq, AV.tup.injEq, AV.agg.injEq, AV.str.injEq, List.cons.injEq, and_true, true_and, decide_eq_true_eq, decide_eq_false_iff_not, bytesL_length, Int.toNat_natCast, exists_eq_left', and_assoc, exists_and_left, beq_iff_eq, beq_eq_false_iff_ne, ne_eq, gt_iff_lt, true_or]
  simp only [noSkip, Bool.not_eq_true', Bool.or_eq_false_iff] at hd
  obtain ⟨hnb, hn35⟩ := hd
  have hb : ¬ blankB (bs.getD a 0) = true := by rw [hnb]; decide
  have h35 : ¬ (bs.getD a 0 == 35) = true := by rw [hn35]; decide
  have htl : (bs.drop (a + 1)).length = bs.length - (a + 1) := by simp
  have hwl : wl (bs.drop a) = if letterB (bs.getD a 0) then 1 + ((bs.drop (a + 1)).takeWhile innerB).length else 0 := by rw [hct]; rfl
  have hwle := wl_le (bs.drop a)
  rw [List.length_drop] at hwle
  have hdg : digitB (bs.getD a 0) = true ↔ 48 ≤ ((bs.getD a 0).toNat : Int) ∧ ((bs.getD a 0).toNat : Int) ≤ 57 := by rw [digitB_iff]; omega
  have h34 : bs.getD a 0 = 34 ↔ ((bs.getD a 0).toNat : Int) = 34 := by rw [← UInt8.toNat_inj]; show (bs.getD a 0).toNat = 34 ↔ _; omega
  have hsl : signLen (bs.drop a) = if eqB (bs.getD a 0) && ((bs.drop (a + 1)).head?.getD 0 == 61) then 2 else if signB (bs.getD a 0) then 1 else 0 := by rw [hct]; rfl
  have hword : letterB (bs.getD a 0) = true → piece (bs.drop a) = (1, wl (bs.drop a), if 24 < wl (bs.drop a) then 2 else 0) := fun h => by
    rw [hwl, if_pos h, hct]
    simp only [piece]; rw [if_neg hb, if_neg h35, if_pos h]
  have hletter : 0 < wl (bs.drop a) → letterB (bs.getD a 0) = true := fun h => by
    cases hh : letterB (bs.getD a 0) with
    | true => rfl
    | false => rw [hwl, hh] at h; simp at h
  refine ⟨fun h24 => ?_, fun h24 => ⟨fun h0 => ?_, fun h0 => ⟨by omega, by omega, ha, fun hdig => ?_, fun hdig => ⟨by omega, by omega, ha, fun hq => ?_, fun hq => ?_⟩⟩⟩⟩
  · have hp := hword (hletter (by omega))
    rw [if_pos (by omega)] at hp
    have e1 : tokTk (bs.drop a) a = ⟨0, [], 0⟩ := by simp [tokTk, hp]
    have e2 : tokN (bs.drop a) = wl (bs.drop a) := by simp [tokN, hp]
    rw [e1, e2, hp]
    exact ⟨rfl, rfl, rfl, rfl, rfl⟩
  · have hp := hword (hletter (by omega))
    rw [if_neg (by omega)] at hp
    have hw : IntKind.i64.wrap ((a : Int) + wl (bs.drop a)) = ((a + wl (bs.drop a) : Nat) : Int) := by rw [wrap64_in (by omega) (by omega)]; omega
    rw [hw]
    simp only [Int.toNat_natCast]
    have e1 : tokTk (bs.drop a) a = ⟨1, (bs.drop a).take (wl (bs.drop a)), a⟩ := by simp [tokTk, txtOf, hp]
    have e2 : tokN (bs.drop a) = wl (bs.drop a) := by simp [tokN, hp]
    refine ⟨by omega, by omega, by omega, by omega, _, by rw [drop_take_bytes, List.drop_take, Nat.add_sub_cancel_left]; exact mapByte _, ?_⟩
    rw [e1, e2, hp]
    exact ⟨rfl, rfl, rfl, rfl, rfl⟩
  · exact ⟨_, _, _, _, _, t45 (hdg.2 hdig), rfl, rfl, rfl, rfl, rfl⟩
  · exact ⟨_, _, _, _, _, t46 (h34.2 hq), rfl, rfl, rfl, rfl, rfl⟩
  · have hnl : ¬ letterB (bs.getD a 0) = true := fun h => by rw [hwl, if_pos h] at h0; omega
    have hnd : ¬ digitB (bs.getD a 0) = true := fun h => hdig (hdg.1 h)
    have hnq : ¬ (bs.getD a 0 == 34) = true := fun h => hq (h34.1 (by simpa using h))
    have hpiece : piece (bs.drop a) = if eqB (bs.getD a 0) && ((bs.drop (a + 1)).head?.getD 0 == 61) then (5, 2, 0) else if signB (bs.getD a 0) then (5, 1, 0) else (-1, 1, 80) := by
      rw [hct]
      simp only [piece]; rw [if_neg hb, if_neg h35, if_neg hnl, if_neg hnd, if_neg hnq]
    have okk : ∀ n : Nat, piece (bs.drop a) = (5, n, 0) → signLen (bs.drop a) = (n : Int) → a + n ≤ bs.length → (0 : Int) ≤ a ∧ 0 ≤ IntKind.i64.wrap ((a : Int) + signLen (bs.drop a)) ∧ a ≤ (IntKind.i64.wrap ((a : Int) + signLen (bs.drop a))).toNat ∧ (IntKind.i64.wrap ((a : Int) + signLen (bs.drop a))).toNat ≤ bs.length ∧ ∃ l, List.mapM byteOf (((bytesL bs).take (IntKind.i64.wrap ((a : Int) + signLen (bs.drop a))).toNat).drop a) = some l ∧ 5 = (tokTk (bs.drop a) a).kind ∧ l = (tokTk (bs.drop a) a).text ∧ (a : Int) = ((tokTk (bs.drop a) a).at_ : Int) ∧ signLen (bs.drop a) = tokN (bs.drop a) ∧ 0 = (piece (bs.drop a)).2.2 := fun n hp hs hle => by
      have hw : IntKind.i64.wrap ((a : Int) + (n : Int)) = ((a + n : Nat) : Int) := by rw [wrap64_in (by omega) (by omega)]; omega
      rw [hs, hw]
      simp only [Int.toNat_natCast]
      have e1 : tokTk (bs.drop a) a = ⟨5, (bs.drop a).take n, a⟩ := by simp [tokTk, txtOf, hp]
      have e2 : tokN (bs.drop a) = n := by simp [tokN, hp]
      refine ⟨by omega, by omega, by omega, by omega, _, by rw [drop_take_bytes, List.drop_take, Nat.add_sub_cancel_left]; exact mapByte _, ?_⟩
      rw [e1, e2, hp]
      exact ⟨rfl, rfl, rfl, rfl, rfl⟩
    by_cases he : (eqB (bs.getD a 0) && ((bs.drop (a + 1)).head?.getD 0 == 61)) = true
    · rw [if_pos he] at hpiece hsl
      refine ⟨fun h => absurd h (by rw [hsl]; decide), fun _ => okk 2 hpiece hsl ?_⟩
      simp only [Bool.and_eq_true, beq_iff_eq] at he
      have : bs.drop (a + 1) ≠ [] := by intro e; rw [e] at he; exact absurd he.2 (by decide)
      have := List.length_pos_iff.2 this
      omega
    · rw [if_neg he] at hpiece hsl
      by_cases hsg : signB (bs.getD a 0) = true
      · rw [if_pos hsg] at hpiece hsl
        exact ⟨fun h => absurd h (by rw [hsl]; decide), fun _ => okk 1 hpiece hsl (by omega)⟩
      · rw [if_neg hsg] at hpiece hsl
        refine ⟨fun _ => ?_, fun h => absurd hsl h⟩
        have e1 : tokTk (bs.drop a) a = ⟨0, [], 0⟩ := by simp [tokTk, hpiece]
        have e2 : tokN (bs.drop a) = 0 := by simp [tokN, hpiece]
        rw [e1, e2, hpiece]
        exact ⟨rfl, rfl, rfl, rfl, rfl⟩
end Go.Abs

namespace Go.Abs
open Go.Proofs L8

theorem skip_true : ∀ (t : List UInt8), skipL true t = (t.takeWhile (· != 10)).length + skipL false (t.drop (t.takeWhile (· != 10)).length)
  | [] => by simp [skipL]
  | c :: t => by
    by_cases h : c = 10
    · subst h
      have hb : blankB 10 = true := rfl
      simp [skipL, hb]
    · have hc : (c != 10) = true := by simpa using h
      have ih := skip_true t
      rw [List.takeWhile_cons, if_pos hc, List.length_cons, List.drop_succ_cons]
      simp only [skipL, hc, Bool.and_self, Bool.true_or, if_true]
      rw [ih]
      omega
theorem scan_skip : ∀ (n : Nat) (l : List UInt8) (a : Nat) (adj : Bool), l.length ≤ n → scan l a adj = scan (l.drop (skipL false l)) (a + skipL false l) (adj && decide (skipL false l = 0)) ∧ (∀ c u, l.drop (skipL false l) = c :: u → noSkip c = true) ∧ skipL false l ≤ l.length := by
  intro n
  induction n with
  | zero =>
    intro l a adj hl
    have : l = [] := List.length_eq_zero_iff.1 (by omega)
    subst this
    refine ⟨by simp [skipL], fun c u h => by simp at h, by simp [skipL]⟩
  | succ n ih =>
    intro l a adj hl
    cases l with
    | nil => refine ⟨by simp [skipL], fun c u h => by simp at h, by simp [skipL]⟩
    | cons c t =>
      simp only [List.length_cons] at hl
      by_cases hb : blankB c = true
      · have h35 : ¬ c = 35 := by rintro rfl; revert hb; decide
        have h35' : (c == 35) = false := by simpa using h35
        have hs : skipL false (c :: t) = 1 + skipL false t := by
          simp only [skipL, hb, h35', Bool.false_and, Bool.false_or, Bool.or_false, Bool.and_false, if_true]
        have hp : piece (c :: t) = (0, 1, 0) := by simp only [piece]; rw [if_pos hb]
        have hst := scan_step (l := c :: t) (by simp) a adj
        have h1 : tkOf (c :: t) a = [] := by simp [tkOf, hp]
        have h2 : pbOf (c :: t) a adj = [] := by simp [pbOf, hp]
        have h3 : adjOf (c :: t) = false := by simp [adjOf, hp]
        rw [h1, h2, h3, hp] at hst
        simp only [List.nil_append, List.drop_succ_cons, List.drop_zero] at hst
        obtain ⟨k1, k2, k3⟩ := ih t (a + 1) false (by omega)
        rw [hs]
        refine ⟨?_, ?_, by simp; omega⟩
        · rw [hst, k1, Nat.add_comm 1, List.drop_succ_cons]
          simp only [Bool.false_and, Nat.succ_ne_zero, decide_false, Bool.and_false]
          rw [show a + 1 + skipL false t = a + (skipL false t + 1) by omega]
        · intro x u hu
          rw [Nat.add_comm 1, List.drop_succ_cons] at hu
          exact k2 x u hu
      · by_cases h35 : c = 35
        · subst h35
          have hs : skipL false (35 :: t) = 1 + skipL true t := by
            simp only [skipL]; rw [if_pos (by rfl)]; rfl
          have hp : piece (35 :: t) = (0, 1 + (t.takeWhile (· != 10)).length, 0) := by simp only [piece]; rw [if_neg (by decide), if_pos (by rfl)]
          have hst := scan_step (l := 35 :: t) (by simp) a adj
          have h1 : tkOf (35 :: t) a = [] := by simp [tkOf, hp]
          have h2 : pbOf (35 :: t) a adj = [] := by simp [pbOf, hp]
          have h3 : adjOf (35 :: t) = false := by simp [adjOf, hp]
          rw [h1, h2, h3, hp] at hst
          simp only [List.nil_append] at hst
          have hle := tw_le (p := (· != 10)) t
          rw [skip_true] at hs
          generalize hk : (t.takeWhile (· != 10)).length = k at *
          rw [Nat.add_comm 1 k, List.drop_succ_cons] at hst
          obtain ⟨k1, k2, k3⟩ := ih (t.drop k) (a + (k + 1)) false (by rw [List.length_drop]; omega)
          rw [List.length_drop] at k3
          generalize hq : skipL false (t.drop k) = q at *
          rw [hs]
          have e : (35 :: t).drop (1 + (k + q)) = (t.drop k).drop q := by rw [Nat.add_comm 1, List.drop_succ_cons, List.drop_drop]
          refine ⟨?_, ?_, by simp; omega⟩
          · rw [hst, k1, e]
            have : decide (1 + (k + q) = 0) = false := by simp
            rw [this, Bool.and_false, Bool.false_and, show a + (k + 1) + q = a + (1 + (k + q)) by omega]
          · intro x u hu
            rw [e] at hu
            exact k2 x u hu
        · have h35' : (c == 35) = false := by simpa using h35
          have hb' : blankB c = false := by simpa using hb
          have hs : skipL false (c :: t) = 0 := by simp [skipL, hb', h35]
          rw [hs]
          refine ⟨by simp, fun x u h => ?_, by simp⟩
          simp only [List.drop_zero, List.cons.injEq] at h
          rw [← h.1, noSkip, hb', h35']; rfl
end Go.Abs

namespace Go.Abs
open Go.Proofs L8

theorem tokN_pos {l : List UInt8} (hl : l ≠ []) : (0 < tokN l ↔ (piece l).1 ≠ -1) := by
  have := piece_pos' hl
  by_cases h : (piece l).1 = -1
  · simp [tokN, h]
  · simp [tokN, h]; omega
theorem un_err {l : List UInt8} (hl : l ≠ []) (h : (piece l).1 = -1) : (piece l).2.1 = 1 ∧ (piece l).2.2 = 80 := by
  cases l with
  | nil => exact absurd rfl hl
  | cons c t => exact piece_un h
theorem tok_ne {l : List UInt8} {c : UInt8} {t : List UInt8} (h : l = c :: t) (hn : noSkip c = true) : (piece l).1 ≠ 0 := by
  subst h
  simp only [noSkip, Bool.not_eq_true', Bool.or_eq_false_iff] at hn
  simp only [piece, hn.1, hn.2]
  repeat' split
  all_goals simp_all
theorem inv13_next {bs : List UInt8} {x : X13} (hx : Inv13 bs x) (hp : x.p < bs.length) :
    Inv13 bs ⟨(adjT bs x).l, (adjT bs x).b, x.p + (piece (bs.drop x.p)).2.1 + skipL false (bs.drop (x.p + (piece (bs.drop x.p)).2.1)), decide ((piece (bs.drop x.p)).1 = -1) && decide (skipL false (bs.drop (x.p + (piece (bs.drop x.p)).2.1)) = 0)⟩ := by
  obtain ⟨h1, h2, h3, h4, h5, h6⟩ := hx
  have hs := scan_step (drop_ne hp) x.p x.adj
  have hle := piece_le (bs.drop x.p)
  have hps := piece_pos' (drop_ne hp)
  rw [List.length_drop] at hle
  rw [List.drop_drop] at hs
  obtain ⟨k1, k2, k3⟩ := scan_skip _ (bs.drop (x.p + (piece (bs.drop x.p)).2.1)) (x.p + (piece (bs.drop x.p)).2.1) (adjOf (bs.drop x.p)) (Nat.le_refl _)
  rw [k1, List.drop_drop] at hs
  rw [List.length_drop] at k3
  have htk : (tkOf (bs.drop x.p) x.p).length ≤ 1 := by unfold tkOf; split <;> simp
  refine ⟨h1, by simp only [adjT, List.length_append]; omega, by simp only; omega, ?_, ?_, fun hlt => ?_⟩
  · rw [← h4, hs]; simp only [adjT, List.append_assoc, adjOf]
  · rw [← h5, hs]; simp only [adjT, List.append_assoc, adjOf]
  · simp only at hlt ⊢
    rw [List.drop_drop] at k2
    refine k2 _ (bs.drop (x.p + (piece (bs.drop x.p)).2.1 + skipL false (bs.drop (x.p + (piece (bs.drop x.p)).2.1)) + 1)) ?_
    rw [List.drop_eq_getElem_cons hlt]
    simp [hlt]
theorem p13 (m : Int) (bs : List UInt8) : LaxOk PP (G8 m) XR (tbl [(30, s30), (31, s31)]) (itbl []) (a13 bs) [] 13 [bytesA bs] (r12 bs) := by
  constructor
  rw [w13]
  have t30 : ∀ j : Nat, j ≤ bs.length → bs.length ≤ 16384 → tbl [(30, s30), (31, s31)] 30 [bytesA bs, .int .i64 j] = some (.int .i64 ((j + skipL false (bs.drop j) : Nat) : Int), []) := fun j hj hl => by rw [tbl_hit]; exact sAt_eq hj (by omega) trivial
  have t31 : ∀ j : Nat, isTok bs j → bs.length ≤ 16384 → tbl [(30, s30), (31, s31)] 31 [bytesA bs, .int .i64 j] = some (tokR (bs.drop j) j, []) := fun j hj hl => by rw [tbl_miss (fun h => absurd h (by decide)), tbl_hit]; exact sAt_eq (Nat.le_of_lt hj.1) (by omega) hj
  simp only [callIs_iff, List.length_map, valsAre_iff, stIs_iff, retLax_iff, decide_eq_true_eq, decide_eq_false_iff_not, gt_iff_lt, true_or, true_and, and_true, List.cons.injEq, AV.sl.injEq, AV.int.injEq, AV.bool.injEq, AV.str.injEq, Option.some.injEq, Prod.mk.injEq, St.mk.injEq, beq_iff_eq, bne_iff_ne, beq_eq_false_iff_ne, bne_eq_false_iff_eq, ne_eq, and_assoc]
  have lx : ∀ {A B C D}, A = C → B = D → Lax2 (AV.tup [AV.sl 3 A (.tok 0), AV.sl 2 B (.tok 1), AV.int .i64 0]) (AV.tup [AV.sl 3 C .no, AV.sl 2 D .no, AV.int .i64 0]) := fun h1 h2 => by
    subst h1; subst h2
    simp [Lax2, all2, Lax1, Lax0]
  have fin : ∀ x : X13, Inv13 bs x → ¬ (x.p : Int) < bs.length → (x.l.length + 1) * 33 ≤ 70368744177664 ∧ Lax2 (AV.tup [AV.sl 3 (x.l.map tokA ++ [AV.agg [AV.int .i64 6, AV.str [], AV.int .i64 bs.length]]) (.tok 0), AV.sl 2 ((x.b.take 32).map pbA) (.tok 1), AV.int .i64 0]) (if bs.length ≤ 16384 then AV.tup [AV.sl 3 ((toksL bs).map tokA) .no, AV.sl 2 ((probsL bs).map pbA) .no, AV.int .i64 0] else AV.tup [AV.sl 3 [] .no, AV.sl 2 [] .no, AV.int .i64 2]) ∧ (if bs.length ≤ 16384 then AV.tup [AV.sl 3 ((toksL bs).map tokA) .no, AV.sl 2 ((probsL bs).map pbA) .no, AV.int .i64 0] else AV.tup [AV.sl 3 [] .no, AV.sl 2 [] .no, AV.int .i64 2]).closed2 = true := fun x hx h => by
    obtain ⟨h1, h2, h3, h4, h5, h6⟩ := hx
    have hp : x.p = bs.length := by omega
    have hd : bs.drop x.p = [] := by rw [hp]; simp
    rw [hd, scan_nil] at h4 h5
    simp only [List.append_nil] at h4 h5
    rw [if_pos h1]
    refine ⟨by omega, lx ?_ ?_, rfl⟩
    · simp only [toksL, List.map_append, List.map_cons, List.map_nil, ← h4]; rfl
    · simp only [probsL, ← h5]
  refine ⟨fun h => ?_, fun h => ⟨_, t30 0 (by omega) (by omega), ⟨⟨[], [], 0 + skipL false (bs.drop 0), false⟩, rfl, rfl, rfl, rfl, rfl, rfl, ?_⟩, fun x hx => ⟨fun hadj => ⟨fun hlt => ?_, fin x hx⟩, fun hadj => ⟨fun hlt => ?_, fin x hx⟩⟩⟩⟩
  · rw [if_neg (by omega)]
    exact ⟨by simp [Lax2, all2, Lax1, Lax0], rfl⟩
  · obtain ⟨k1, k2, k3⟩ := scan_skip _ bs 0 false (Nat.le_refl _)
    simp only [List.drop_zero, Bool.false_and, Nat.zero_add] at k1 ⊢
    refine ⟨by omega, by simp, by simp only; omega, ?_, ?_, fun hlt => ?_⟩
    · simp only [List.nil_append]; rw [← k1]
    · simp only [List.nil_append]; rw [← k1]
    · simp only [] at hlt ⊢
      refine k2 _ (bs.drop (skipL false bs + 1)) ?_
      rw [List.drop_eq_getElem_cons hlt]
      simp [hlt]
  · have hp : x.p < bs.length := by omega
    have hsm := hx.small
    have hln := hx.len
    have hne := drop_ne hp
    have hct : bs.drop x.p = bs.getD x.p 0 :: bs.drop (x.p + 1) := by
      rw [List.drop_eq_getElem_cons hp]; simp [hp]
    have hpos := tokN_pos hne
    have i11 : Inv11 bs (adjR bs x) := ⟨x, hx, hp, rfl⟩
    have pbp : ¬ (piece (bs.drop x.p)).2.2 = 0 → 0 < tokN (bs.drop x.p) → pbOf (bs.drop x.p) x.p x.adj = [⟨x.p, (piece (bs.drop x.p)).2.2⟩] := fun h1 h2 => by
      simp only [pbOf, if_neg (hpos.1 h2), if_neg h1]
    have pbz : (piece (bs.drop x.p)).2.2 = 0 → pbOf (bs.drop x.p) x.p x.adj = [] := fun h => by
      have hk : (piece (bs.drop x.p)).1 ≠ -1 := fun h2 => by rw [(un_err hne h2).2] at h; cases h
      simp only [pbOf, if_neg hk, if_pos h]
    have pbun : ¬ 0 < tokN (bs.drop x.p) → pbOf (bs.drop x.p) x.p x.adj = [] := fun h => by
      have hk : (piece (bs.drop x.p)).1 = -1 := by
        by_cases h2 : (piece (bs.drop x.p)).1 = -1
        · exact h2
        · exact absurd (hpos.2 h2) h
      simp only [pbOf, if_pos hk, hadj, if_true]
    have grow : pbOf (bs.drop x.p) x.p x.adj = [⟨x.p, (piece (bs.drop x.p)).2.2⟩] → ((x.b.take 32).length < 32 → (x.b.take 32).map pbA ++ [AV.agg [AV.int .i64 x.p, AV.int .i64 (piece (bs.drop x.p)).2.2]] = ((adjR bs x).b.take 32).map pbA) ∧ ((x.b.take 32).length < 32 → (x.b.take 32).length + 1 = ((adjR bs x).b.take 32).length) ∧ (¬ (x.b.take 32).length < 32 → (x.b.take 32).map pbA = ((adjR bs x).b.take 32).map pbA) ∧ (¬ (x.b.take 32).length < 32 → (x.b.take 32).length = ((adjR bs x).b.take 32).length) := fun h => by
      simp only [adjR, h, take32]
      refine ⟨fun h => ?_, fun h => ?_, fun h => ?_, fun h => ?_⟩
      · rw [if_pos h, List.map_append]; rfl
      · rw [if_pos h, List.length_append]; rfl
      · rw [if_neg h]
      · rw [if_neg h]
    have stay : pbOf (bs.drop x.p) x.p x.adj = [] → (x.b.take 32).map pbA = ((adjR bs x).b.take 32).map pbA ∧ (x.b.take 32).length = ((adjR bs x).b.take 32).length := fun h => by
      simp only [adjR, h, List.append_nil]; exact ⟨trivial, trivial⟩
    refine ⟨_, _, _, _, _, t31 x.p ⟨hp, hx.tok hp⟩ hsm, fun he => ⟨fun hn => ⟨fun h32 => ⟨by omega, adjR bs x, rfl, (grow (pbp he hn)).1 (by omega), rfl, rfl, rfl, rfl, rfl, rfl, rfl, (grow (pbp he hn)).2.1 (by omega), i11, rfl⟩, fun h32 => ⟨adjR bs x, rfl, (grow (pbp he hn)).2.2.1 (by omega), rfl, rfl, rfl, rfl, rfl, rfl, rfl, (grow (pbp he hn)).2.2.2 (by omega), i11, rfl⟩⟩, fun hn => ⟨adjR bs x, rfl, (stay (pbun hn)).1, rfl, rfl, rfl, rfl, rfl, rfl, rfl, (stay (pbun hn)).2, i11, rfl⟩⟩, fun he => ⟨adjR bs x, rfl, (stay (pbz he)).1, rfl, rfl, rfl, rfl, rfl, rfl, rfl, (stay (pbz he)).2, i11, rfl⟩, fun x1 hx1 h1p => ?_⟩
    obtain ⟨x0, hx0, hp0, rfl⟩ := hx1.h
    have e0 : (adjR bs x0).p = x0.p := rfl
    have hct0 : bs.drop x0.p = bs.getD x0.p 0 :: bs.drop (x0.p + 1) := by
      rw [List.drop_eq_getElem_cons hp0]; simp [hp0]
    have hne0 := drop_ne hp0
    have hk00 : (piece (bs.drop x0.p)).1 ≠ 0 := tok_ne hct0 (hx0.tok hp0)
    have hl0 := hx0.len
    have ic : Inv13c bs (adjT bs x0) := ⟨x0, hx0, hp0, rfl⟩
    simp only [e0]
    refine ⟨fun he => ⟨?_, adjT bs x0, ?_, rfl, rfl, rfl, rfl, rfl, rfl, ?_, rfl, ic, rfl⟩, fun he => ⟨adjT bs x0, ?_, rfl, rfl, rfl, rfl, rfl, rfl, ?_, rfl, ic, rfl⟩, fun x2 hx2 h2p => ?_⟩
    · show (x0.l.length + 1) * 33 ≤ _; omega
    · have hk : (piece (bs.drop x0.p)).1 ≠ -1 := fun h2 => by rw [(un_err hne0 h2).2] at he; cases he
      have h1 : tkOf (bs.drop x0.p) x0.p = [⟨(piece (bs.drop x0.p)).1, txtOf (bs.drop x0.p), x0.p⟩] := by simp only [tkOf]; rw [if_pos ⟨hk, he, hk00⟩]
      have h2 : tokTk (bs.drop x0.p) x0.p = ⟨(piece (bs.drop x0.p)).1, txtOf (bs.drop x0.p), x0.p⟩ := by
        simp only [tokTk]; rw [if_neg (by rintro (h | h); exact hk h; exact h.1 he)]
      simp only [adjT, h1, h2, List.map_append]
      rfl
    · have hk : (piece (bs.drop x0.p)).1 ≠ -1 := fun h2 => by rw [(un_err hne0 h2).2] at he; cases he
      have h1 : tkOf (bs.drop x0.p) x0.p = [⟨(piece (bs.drop x0.p)).1, txtOf (bs.drop x0.p), x0.p⟩] := by simp only [tkOf]; rw [if_pos ⟨hk, he, hk00⟩]
      simp only [adjT, h1, List.length_append]
      rfl
    · have h1 : tkOf (bs.drop x0.p) x0.p = [] := by simp only [tkOf]; rw [if_neg (fun h => he h.2.1)]
      simp only [adjT, h1, List.append_nil]
      rfl
    · have h1 : tkOf (bs.drop x0.p) x0.p = [] := by simp only [tkOf]; rw [if_neg (fun h => he h.2.1)]
      simp only [adjT, h1, List.append_nil]
      rfl
    · clear hct0 hne0 hk00 ic
      obtain ⟨x3, hx3, hp3, rfl⟩ := hx2.h
      have e3 : (adjT bs x3).p = x3.p := rfl
      have hne3 := drop_ne hp3
      have hpp : x.p = x3.p := by
        have h9 : (x0.p : Int) = x3.p := h2p
        have h8 : (x.p : Int) = x0.p := h1p
        omega
      simp only [e3]
      have hnx := inv13_next hx3 hp3
      have hle := piece_le (bs.drop x3.p)
      have hps := piece_pos' hne3
      rw [List.length_drop] at hle
      have hmax : (x3.p : Int) + max (tokN (bs.drop x3.p)) 1 = ((x3.p + (piece (bs.drop x3.p)).2.1 : Nat) : Int) := by
        by_cases hk : (piece (bs.drop x3.p)).1 = -1
        · have h9 : tokN (bs.drop x3.p) = 0 := by simp [tokN, hk]
          rw [h9, (un_err hne3 hk).1]; rfl
        · have h9 : tokN (bs.drop x3.p) = ((piece (bs.drop x3.p)).2.1 : Int) := by simp [tokN, hk]
          rw [h9]; omega
      have hw : IntKind.i64.wrap ((x3.p + (piece (bs.drop x3.p)).2.1 : Nat) : Int) = ((x3.p + (piece (bs.drop x3.p)).2.1 : Nat) : Int) := wrap64_in (by omega) (by omega)
      rw [hmax, hw]
      have hzero : tokN (bs.drop x3.p) = 0 ↔ (piece (bs.drop x3.p)).1 = -1 := by
        constructor
        · intro h; by_cases hk : (piece (bs.drop x3.p)).1 = -1
          · exact hk
          · simp only [tokN, if_neg hk] at h; omega
        · intro h; simp only [tokN, if_pos h]
      refine ⟨_, t30 _ (by omega) hsm, fun hz => ⟨fun hn => ⟨⟨(adjT bs x3).l, (adjT bs x3).b, x3.p + (piece (bs.drop x3.p)).2.1 + skipL false (bs.drop (x3.p + (piece (bs.drop x3.p)).2.1)), decide ((piece (bs.drop x3.p)).1 = -1) && decide (skipL false (bs.drop (x3.p + (piece (bs.drop x3.p)).2.1)) = 0)⟩, rfl, rfl, rfl, ?_, rfl, rfl, hnx, ?_⟩, fun hn => ⟨⟨(adjT bs x3).l, (adjT bs x3).b, x3.p + (piece (bs.drop x3.p)).2.1 + skipL false (bs.drop (x3.p + (piece (bs.drop x3.p)).2.1)), decide ((piece (bs.drop x3.p)).1 = -1) && decide (skipL false (bs.drop (x3.p + (piece (bs.drop x3.p)).2.1)) = 0)⟩, rfl, rfl, rfl, ?_, rfl, rfl, hnx, ?_⟩⟩, fun hz => ⟨⟨(adjT bs x3).l, (adjT bs x3).b, x3.p + (piece (bs.drop x3.p)).2.1 + skipL false (bs.drop (x3.p + (piece (bs.drop x3.p)).2.1)), decide ((piece (bs.drop x3.p)).1 = -1) && decide (skipL false (bs.drop (x3.p + (piece (bs.drop x3.p)).2.1)) = 0)⟩, rfl, rfl, rfl, ?_, rfl, rfl, hnx, ?_⟩⟩
      · simp only; rw [decide_eq_true (hzero.1 hz), decide_eq_true (by omega)]; rfl
      · simp only; omega
      · simp only; rw [decide_eq_false (p := skipL false _ = 0) (by omega)]; simp
      · simp only; omega
      · simp only; rw [decide_eq_false (p := (piece (bs.drop x3.p)).1 = -1) (fun h => hz (hzero.2 h))]; rfl
      · simp only; omega
  · have hp : x.p < bs.length := by omega
    have hsm := hx.small
    have hln := hx.len
    have hne := drop_ne hp
    have hct : bs.drop x.p = bs.getD x.p 0 :: bs.drop (x.p + 1) := by
      rw [List.drop_eq_getElem_cons hp]; simp [hp]
    have hpos := tokN_pos hne
    have i11 : Inv11 bs (adjR bs x) := ⟨x, hx, hp, rfl⟩
    have pbp : ¬ (piece (bs.drop x.p)).2.2 = 0 → 0 < tokN (bs.drop x.p) → pbOf (bs.drop x.p) x.p x.adj = [⟨x.p, (piece (bs.drop x.p)).2.2⟩] := fun h1 h2 => by
      simp only [pbOf, if_neg (hpos.1 h2), if_neg h1]
    have pbz : (piece (bs.drop x.p)).2.2 = 0 → pbOf (bs.drop x.p) x.p x.adj = [] := fun h => by
      have hk : (piece (bs.drop x.p)).1 ≠ -1 := fun h2 => by rw [(un_err hne h2).2] at h; cases h
      simp only [pbOf, if_neg hk, if_pos h]
    have pbun : ¬ 0 < tokN (bs.drop x.p) → pbOf (bs.drop x.p) x.p x.adj = [⟨x.p, (piece (bs.drop x.p)).2.2⟩] := fun h => by
      have hk : (piece (bs.drop x.p)).1 = -1 := by
        by_cases h2 : (piece (bs.drop x.p)).1 = -1
        · exact h2
        · exact absurd (hpos.2 h2) h
      simp only [pbOf, if_pos hk, hadj, Bool.false_eq_true, if_false, (un_err hne hk).2]
    have grow : pbOf (bs.drop x.p) x.p x.adj = [⟨x.p, (piece (bs.drop x.p)).2.2⟩] → ((x.b.take 32).length < 32 → (x.b.take 32).map pbA ++ [AV.agg [AV.int .i64 x.p, AV.int .i64 (piece (bs.drop x.p)).2.2]] = ((adjR bs x).b.take 32).map pbA) ∧ ((x.b.take 32).length < 32 → (x.b.take 32).length + 1 = ((adjR bs x).b.take 32).length) ∧ (¬ (x.b.take 32).length < 32 → (x.b.take 32).map pbA = ((adjR bs x).b.take 32).map pbA) ∧ (¬ (x.b.take 32).length < 32 → (x.b.take 32).length = ((adjR bs x).b.take 32).length) := fun h => by
      simp only [adjR, h, take32]
      refine ⟨fun h => ?_, fun h => ?_, fun h => ?_, fun h => ?_⟩
      · rw [if_pos h, List.map_append]; rfl
      · rw [if_pos h, List.length_append]; rfl
      · rw [if_neg h]
      · rw [if_neg h]
    have stay : pbOf (bs.drop x.p) x.p x.adj = [] → (x.b.take 32).map pbA = ((adjR bs x).b.take 32).map pbA ∧ (x.b.take 32).length = ((adjR bs x).b.take 32).length := fun h => by
      simp only [adjR, h, List.append_nil]; exact ⟨trivial, trivial⟩
    refine ⟨_, _, _, _, _, t31 x.p ⟨hp, hx.tok hp⟩ hsm, fun he => ⟨fun hn => ⟨fun h32 => ⟨by omega, adjR bs x, rfl, (grow (pbp he hn)).1 (by omega), rfl, rfl, rfl, rfl, rfl, rfl, rfl, (grow (pbp he hn)).2.1 (by omega), i11, rfl⟩, fun h32 => ⟨adjR bs x, rfl, (grow (pbp he hn)).2.2.1 (by omega), rfl, rfl, rfl, rfl, rfl, rfl, rfl, (grow (pbp he hn)).2.2.2 (by omega), i11, rfl⟩⟩, fun hn => ⟨fun h32 => ⟨by omega, adjR bs x, rfl, (grow (pbun hn)).1 (by omega), rfl, rfl, rfl, rfl, rfl, rfl, rfl, (grow (pbun hn)).2.1 (by omega), i11, rfl⟩, fun h32 => ⟨adjR bs x, rfl, (grow (pbun hn)).2.2.1 (by omega), rfl, rfl, rfl, rfl, rfl, rfl, rfl, (grow (pbun hn)).2.2.2 (by omega), i11, rfl⟩⟩⟩, fun he => ⟨adjR bs x, rfl, (stay (pbz he)).1, rfl, rfl, rfl, rfl, rfl, rfl, rfl, (stay (pbz he)).2, i11, rfl⟩, fun x1 hx1 h1p => ?_⟩
    obtain ⟨x0, hx0, hp0, rfl⟩ := hx1.h
    have e0 : (adjR bs x0).p = x0.p := rfl
    have hct0 : bs.drop x0.p = bs.getD x0.p 0 :: bs.drop (x0.p + 1) := by
      rw [List.drop_eq_getElem_cons hp0]; simp [hp0]
    have hne0 := drop_ne hp0
    have hk00 : (piece (bs.drop x0.p)).1 ≠ 0 := tok_ne hct0 (hx0.tok hp0)
    have hl0 := hx0.len
    have ic : Inv13c bs (adjT bs x0) := ⟨x0, hx0, hp0, rfl⟩
    simp only [e0]
    refine ⟨fun he => ⟨?_, adjT bs x0, ?_, rfl, rfl, rfl, rfl, rfl, rfl, ?_, rfl, ic, rfl⟩, fun he => ⟨adjT bs x0, ?_, rfl, rfl, rfl, rfl, rfl, rfl, ?_, rfl, ic, rfl⟩, fun x2 hx2 h2p => ?_⟩
    · show (x0.l.length + 1) * 33 ≤ _; omega
    · have hk : (piece (bs.drop x0.p)).1 ≠ -1 := fun h2 => by rw [(un_err hne0 h2).2] at he; cases he
      have h1 : tkOf (bs.drop x0.p) x0.p = [⟨(piece (bs.drop x0.p)).1, txtOf (bs.drop x0.p), x0.p⟩] := by simp only [tkOf]; rw [if_pos ⟨hk, he, hk00⟩]
      have h2 : tokTk (bs.drop x0.p) x0.p = ⟨(piece (bs.drop x0.p)).1, txtOf (bs.drop x0.p), x0.p⟩ := by
        simp only [tokTk]; rw [if_neg (by rintro (h | h); exact hk h; exact h.1 he)]
      simp only [adjT, h1, h2, List.map_append]
      rfl
    · have hk : (piece (bs.drop x0.p)).1 ≠ -1 := fun h2 => by rw [(un_err hne0 h2).2] at he; cases he
      have h1 : tkOf (bs.drop x0.p) x0.p = [⟨(piece (bs.drop x0.p)).1, txtOf (bs.drop x0.p), x0.p⟩] := by simp only [tkOf]; rw [if_pos ⟨hk, he, hk00⟩]
      simp only [adjT, h1, List.length_append]
      rfl
    · have h1 : tkOf (bs.drop x0.p) x0.p = [] := by simp only [tkOf]; rw [if_neg (fun h => he h.2.1)]
      simp only [adjT, h1, List.append_nil]
      rfl
    · have h1 : tkOf (bs.drop x0.p) x0.p = [] := by simp only [tkOf]; rw [if_neg (fun h => he h.2.1)]
      simp only [adjT, h1, List.append_nil]
      rfl
    · clear hct0 hne0 hk00 ic
      obtain ⟨x3, hx3, hp3, rfl⟩ := hx2.h
      have e3 : (adjT bs x3).p = x3.p := rfl
      have hne3 := drop_ne hp3
      have hpp : x.p = x3.p := by
        have h9 : (x0.p : Int) = x3.p := h2p
        have h8 : (x.p : Int) = x0.p := h1p
        omega
      simp only [e3]
      have hnx := inv13_next hx3 hp3
      have hle := piece_le (bs.drop x3.p)
      have hps := piece_pos' hne3
      rw [List.length_drop] at hle
      have hmax : (x3.p : Int) + max (tokN (bs.drop x3.p)) 1 = ((x3.p + (piece (bs.drop x3.p)).2.1 : Nat) : Int) := by
        by_cases hk : (piece (bs.drop x3.p)).1 = -1
        · have h9 : tokN (bs.drop x3.p) = 0 := by simp [tokN, hk]
          rw [h9, (un_err hne3 hk).1]; rfl
        · have h9 : tokN (bs.drop x3.p) = ((piece (bs.drop x3.p)).2.1 : Int) := by simp [tokN, hk]
          rw [h9]; omega
      have hw : IntKind.i64.wrap ((x3.p + (piece (bs.drop x3.p)).2.1 : Nat) : Int) = ((x3.p + (piece (bs.drop x3.p)).2.1 : Nat) : Int) := wrap64_in (by omega) (by omega)
      rw [hmax, hw]
      have hzero : tokN (bs.drop x3.p) = 0 ↔ (piece (bs.drop x3.p)).1 = -1 := by
        constructor
        · intro h; by_cases hk : (piece (bs.drop x3.p)).1 = -1
          · exact hk
          · simp only [tokN, if_neg hk] at h; omega
        · intro h; simp only [tokN, if_pos h]
      refine ⟨_, t30 _ (by omega) hsm, fun hz => ⟨fun hn => ⟨⟨(adjT bs x3).l, (adjT bs x3).b, x3.p + (piece (bs.drop x3.p)).2.1 + skipL false (bs.drop (x3.p + (piece (bs.drop x3.p)).2.1)), decide ((piece (bs.drop x3.p)).1 = -1) && decide (skipL false (bs.drop (x3.p + (piece (bs.drop x3.p)).2.1)) = 0)⟩, rfl, rfl, rfl, ?_, rfl, rfl, hnx, ?_⟩, fun hn => ⟨⟨(adjT bs x3).l, (adjT bs x3).b, x3.p + (piece (bs.drop x3.p)).2.1 + skipL false (bs.drop (x3.p + (piece (bs.drop x3.p)).2.1)), decide ((piece (bs.drop x3.p)).1 = -1) && decide (skipL false (bs.drop (x3.p + (piece (bs.drop x3.p)).2.1)) = 0)⟩, rfl, rfl, rfl, ?_, rfl, rfl, hnx, ?_⟩⟩, fun hz => ⟨⟨(adjT bs x3).l, (adjT bs x3).b, x3.p + (piece (bs.drop x3.p)).2.1 + skipL false (bs.drop (x3.p + (piece (bs.drop x3.p)).2.1)), decide ((piece (bs.drop x3.p)).1 = -1) && decide (skipL false (bs.drop (x3.p + (piece (bs.drop x3.p)).2.1)) = 0)⟩, rfl, rfl, rfl, ?_, rfl, rfl, hnx, ?_⟩⟩
      · simp only; rw [decide_eq_true (hzero.1 hz), decide_eq_true (by omega)]; rfl
      · simp only; omega
      · simp only; rw [decide_eq_false (p := skipL false _ = 0) (by omega)]; simp
      · simp only; omega
      · simp only; rw [decide_eq_false (p := (piece (bs.drop x3.p)).1 = -1) (fun h => hz (hzero.2 h))]; rfl
      · simp only; omega
end Go.Abs
