/- Own texts, part 11. -/
import Derived.Test.YtdajfgkcpflacaaGreatPart8
import Derived.Test.YtdajfgkcpflacaaGreatPart9
import Derived.Test.YtdajfgkcpflacaaGreatPart10
import Derived.Test.YtdajfgkcpflacaaGreatPart3
import Derived.Test.YtdajfgkcpflacaaGreatRows
import Derived.Test.YtdajfgkcpflacaaGreatPart6
import Derived.LaidLaws
import Derived.Lay
import Derived.Shelf.Lay

namespace Go.Abs
open Go.Proofs Go.Proofs.K17 Go.Proofs.D17 Go.RowKit
theorem y54 (n : Int) (r : AV) : (pureW PA GA XM (tbl []) (itbl []) nAn [] 54 [.int .i64 n] (r, [])) =
((decide ((-1152921504606846976 : Int) ≤ n) = true →
    (decide (n ≤ (1152921504606846976 : Int)) = true → RetIs (AV.bool true) [] (r, [])) ∧
      (decide (n ≤ (1152921504606846976 : Int)) = false → RetIs (AV.bool false) [] (r, []))) ∧
  (decide ((-1152921504606846976 : Int) ≤ n) = false → RetIs (AV.bool false) [] (r, []))) := by kernel_rfl
theorem y76 (n : Int) (r : AV) : (pureW PA GA XM (tbl []) (itbl []) nAn [] 76 [.int .i64 n] (r, [])) =
((decide (n < (0 : Int)) = true → RetIs (AV.tup [.int .u64 (IntKind.u64.wrap (IntKind.i64.wrap ((0 : Int) - n))), .bool true]) [] (r, [])) ∧
  (decide (n < (0 : Int)) = false → RetIs (AV.tup [.int .u64 (IntKind.u64.wrap n), .bool false]) [] (r, []))) := by kernel_rfl
theorem y58 (a b c : Int) (r : AV) : (pureW PA GA XM (tbl [(76, v76), (65, s54), (43, s57)]) (itbl []) (a58 a b c) [] 58 [.int .i64 a, .int .i64 b, .int .i64 c] (r, [])) =
((∃ (n : Int) (b_1 : Bool),
      CallIs (tbl [((76 : Nat), v76), (65, s54), (43, s57)] 76 [.int .i64 a]) (AV.tup [.int .u64 n, .bool b_1])
 [] ∧
        (b_1 = true →
 ∃ (_y : Unit),
 ValsAre [.int .i64 b, .int .i64 c, .int .u64 n, .bool true]
 [.int .i64 b, .int .i64 c, .int .u64 (↑a.natAbs : Int), .bool (decide (a < (0 : Int)))] ∧
 StIs { boxes := [], live := [] } { boxes := [], live := [] } ∧ True ∧ True) ∧
 (b_1 = false →
 ∃ (_y : Unit),
 ValsAre [.int .i64 b, .int .i64 c, .int .u64 n, .bool false]
 [.int .i64 b, .int .i64 c, .int .u64 (↑a.natAbs : Int), .bool (decide (a < (0 : Int)))] ∧
 StIs { boxes := [], live := [] } { boxes := [], live := [] } ∧ True ∧ True)) ∧
  ∀ (_x : Unit),
    True →
      True →
        (∃ (n : Int) (b_1 : Bool),
 CallIs (tbl [((76 : Nat), v76), (65, s54), (43, s57)] 76 [.int .i64 b])
 (AV.tup [.int .u64 n, .bool b_1]) [] ∧
 (b_1 = true →
 ∃ (_y : Unit),
 ValsAre [.int .i64 c, .int .u64 (↑a.natAbs : Int), .bool (decide (a < (0 : Int))), .int .u64 n, .bool true]
 [.int .i64 c, .int .u64 (↑a.natAbs : Int), .bool (decide (a < (0 : Int))), .int .u64 (↑b.natAbs : Int),
 .bool (decide (b < (0 : Int)))] ∧
 StIs { boxes := [], live := [] } { boxes := [], live := [] } ∧ True ∧ True) ∧
 (b_1 = false →
 ∃ (_y : Unit),
 ValsAre
 [.int .i64 c, .int .u64 (↑a.natAbs : Int), .bool (decide (a < (0 : Int))), .int .u64 n, .bool false]
 [.int .i64 c, .int .u64 (↑a.natAbs : Int), .bool (decide (a < (0 : Int))), .int .u64 (↑b.natAbs : Int),
 .bool (decide (b < (0 : Int)))] ∧
 StIs { boxes := [], live := [] } { boxes := [], live := [] } ∧ True ∧ True)) ∧
 ∀ (_x : Unit),
 True →
 True →
 (∃ (n : Int) (b_1 : Bool),
 CallIs (tbl [((76 : Nat), v76), (65, s54), (43, s57)] 76 [.int .i64 c])
 (AV.tup [.int .u64 n, .bool b_1]) [] ∧
 (b_1 = true →
 ∃ (_y : Unit),
 ValsAre
 [.int .u64 (↑a.natAbs : Int), .bool (decide (a < (0 : Int))), .int .u64 (↑b.natAbs : Int),
 .bool (decide (b < (0 : Int))), .int .u64 n, .bool true]
 [.int .u64 (↑a.natAbs : Int), .bool (decide (a < (0 : Int))), .int .u64 (↑b.natAbs : Int),
 .bool (decide (b < (0 : Int))), .int .u64 (↑c.natAbs : Int), .bool (decide (c < (0 : Int)))] ∧
 StIs { boxes := [], live := [] } { boxes := [], live := [] } ∧ True ∧ True) ∧
 (b_1 = false →
 ∃ (_y : Unit),
 ValsAre
 [.int .u64 (↑a.natAbs : Int), .bool (decide (a < (0 : Int))), .int .u64 (↑b.natAbs : Int),
 .bool (decide (b < (0 : Int))), .int .u64 n, .bool false]
 [.int .u64 (↑a.natAbs : Int), .bool (decide (a < (0 : Int))), .int .u64 (↑b.natAbs : Int),
 .bool (decide (b < (0 : Int))), .int .u64 (↑c.natAbs : Int), .bool (decide (c < (0 : Int)))] ∧
 StIs { boxes := [], live := [] } { boxes := [], live := [] } ∧ True ∧ True)) ∧
 ∀ (_x : Unit),
 True →
 True →
 ∃ (n : Int) (n_1 : Int),
 CallIs
 (tbl [((76 : Nat), v76), (65, s54), (43, s57)] 65
 [.int .u64 (↑a.natAbs : Int), .int .u64 (↑b.natAbs : Int)])
 (AV.tup [.int .u64 n, .int .u64 n_1]) [] ∧
 (decide (n ≥ (↑c.natAbs : Int)) = true → RetIs (AV.tup [.int .i64 0, .bool false]) [] (r, [])) ∧
 (decide (n ≥ (↑c.natAbs : Int)) = false →
 ∃ (n_2 : Int) (n_3 : Int),
 CallIs
 (tbl [((76 : Nat), v76), (65, s54), (43, s57)] 43
 [.int .u64 n, .int .u64 n_1, .int .u64 (↑c.natAbs : Int)])
 (AV.tup [.int .u64 n_2, .int .u64 n_3]) [] ∧
 ((decide (IntKind.u64.wrap ((2 : Int) * n_3) > (↑c.natAbs : Int)) = true →
 ∃ (_y : Unit),
 ValsAre
 [.bool (decide (a < (0 : Int))), .bool (decide (b < (0 : Int))), .bool (decide (c < (0 : Int))),
 .int .u64 (IntKind.u64.wrap (n_2 + (1 : Int)))]
 [.bool (decide (a < (0 : Int))), .bool (decide (b < (0 : Int))), .bool (decide (c < (0 : Int))),
 .int .u64 (rnd a b c)] ∧
 StIs { boxes := [], live := [] } { boxes := [], live := [] } ∧
 rnd a b c < (18446744073709551616 : Int) ∧ True) ∧
 (decide (IntKind.u64.wrap ((2 : Int) * n_3) > (↑c.natAbs : Int)) = false →
 ((IntKind.u64.wrap ((2 : Int) * n_3) == (↑c.natAbs : Int)) = true →
 ((IntKind.u64.wrap
 (↑(BitVec.ofInt IntKind.u64.bits n_2 &&& BitVec.ofInt IntKind.u64.bits (1 : Int)).toNat : Int) ==
 (1 : Int)) =
 true →
 ∃ (_y : Unit),
 ValsAre
 [.bool (decide (a < (0 : Int))), .bool (decide (b < (0 : Int))),
 .bool (decide (c < (0 : Int))), .int .u64 (IntKind.u64.wrap (n_2 + (1 : Int)))]
 [.bool (decide (a < (0 : Int))), .bool (decide (b < (0 : Int))),
 .bool (decide (c < (0 : Int))), .int .u64 (rnd a b c)] ∧
 StIs { boxes := [], live := [] } { boxes := [], live := [] } ∧
 rnd a b c < (18446744073709551616 : Int) ∧ True) ∧
 ((IntKind.u64.wrap
 (↑(BitVec.ofInt IntKind.u64.bits n_2 &&& BitVec.ofInt IntKind.u64.bits (1 : Int)).toNat : Int) ==
 (1 : Int)) =
 false →
 ∃ (_y : Unit),
 ValsAre
 [.bool (decide (a < (0 : Int))), .bool (decide (b < (0 : Int))),
 .bool (decide (c < (0 : Int))), .int .u64 n_2]
 [.bool (decide (a < (0 : Int))), .bool (decide (b < (0 : Int))),
 .bool (decide (c < (0 : Int))), .int .u64 (rnd a b c)] ∧
 StIs { boxes := [], live := [] } { boxes := [], live := [] } ∧
 rnd a b c < (18446744073709551616 : Int) ∧ True)) ∧
 ((IntKind.u64.wrap ((2 : Int) * n_3) == (↑c.natAbs : Int)) = false →
 ∃ (_y : Unit),
 ValsAre
 [.bool (decide (a < (0 : Int))), .bool (decide (b < (0 : Int))), .bool (decide (c < (0 : Int))),
 .int .u64 n_2]
 [.bool (decide (a < (0 : Int))), .bool (decide (b < (0 : Int))), .bool (decide (c < (0 : Int))),
 .int .u64 (rnd a b c)] ∧
 StIs { boxes := [], live := [] } { boxes := [], live := [] } ∧
 rnd a b c < (18446744073709551616 : Int) ∧ True))) ∧
 ∀ (_x : Unit),
 rnd a b c < (18446744073709551616 : Int) →
 True →
 (decide (a < (0 : Int)) = true →
 (decide (b < (0 : Int)) = true →
 (decide (c < (0 : Int)) = true →
 (decide (rnd a b c > (1152921504606846976 : Int)) = true →
 RetIs (AV.tup [.int .i64 0, .bool false]) [] (r, [])) ∧
 (decide (rnd a b c > (1152921504606846976 : Int)) = false →
 (false = true →
 (false = true →
 RetIs
 (AV.tup
 [.int .i64 (IntKind.i64.wrap ((0 : Int) - IntKind.i64.wrap (rnd a b c))),
 .bool true])
 [] (r, [])) ∧
 (false = false →
 RetIs (AV.tup [.int .i64 (IntKind.i64.wrap (rnd a b c)), .bool true]) []
 (r, []))) ∧
 (false = false →
 (true = true →
 RetIs
 (AV.tup
 [.int .i64 (IntKind.i64.wrap ((0 : Int) - IntKind.i64.wrap (rnd a b c))),
 .bool true])
 [] (r, [])) ∧
 (true = false →
 RetIs (AV.tup [.int .i64 (IntKind.i64.wrap (rnd a b c)), .bool true]) []
 (r, []))))) ∧
 (decide (c < (0 : Int)) = false →
 (decide (rnd a b c > (1152921504606846976 : Int)) = true →
 RetIs (AV.tup [.int .i64 0, .bool false]) [] (r, [])) ∧
 (decide (rnd a b c > (1152921504606846976 : Int)) = false →
 (false = true →
 (true = true →
 RetIs
 (AV.tup
 [.int .i64 (IntKind.i64.wrap ((0 : Int) - IntKind.i64.wrap (rnd a b c))),
 .bool true])
 [] (r, [])) ∧
 (true = false →
 RetIs (AV.tup [.int .i64 (IntKind.i64.wrap (rnd a b c)), .bool true]) []
 (r, []))) ∧
 (false = false →
 (false = true →
 RetIs
 (AV.tup
 [.int .i64 (IntKind.i64.wrap ((0 : Int) - IntKind.i64.wrap (rnd a b c))),
 .bool true])
 [] (r, [])) ∧
 (false = false →
 RetIs (AV.tup [.int .i64 (IntKind.i64.wrap (rnd a b c)), .bool true]) []
 (r, [])))))) ∧
 (decide (b < (0 : Int)) = false →
 (decide (c < (0 : Int)) = true →
 (decide (rnd a b c > (1152921504606846976 : Int)) = true →
 RetIs (AV.tup [.int .i64 0, .bool false]) [] (r, [])) ∧
 (decide (rnd a b c > (1152921504606846976 : Int)) = false →
 (true = true →
 (false = true →
 RetIs
 (AV.tup
 [.int .i64 (IntKind.i64.wrap ((0 : Int) - IntKind.i64.wrap (rnd a b c))),
 .bool true])
 [] (r, [])) ∧
 (false = false →
 RetIs (AV.tup [.int .i64 (IntKind.i64.wrap (rnd a b c)), .bool true]) []
 (r, []))) ∧
 (true = false →
 (true = true →
 RetIs
 (AV.tup
 [.int .i64 (IntKind.i64.wrap ((0 : Int) - IntKind.i64.wrap (rnd a b c))),
 .bool true])
 [] (r, [])) ∧
 (true = false →
 RetIs (AV.tup [.int .i64 (IntKind.i64.wrap (rnd a b c)), .bool true]) []
 (r, []))))) ∧
 (decide (c < (0 : Int)) = false →
 (decide (rnd a b c > (1152921504606846976 : Int)) = true →
 RetIs (AV.tup [.int .i64 0, .bool false]) [] (r, [])) ∧
 (decide (rnd a b c > (1152921504606846976 : Int)) = false →
 (true = true →
 (true = true →
 RetIs
 (AV.tup
 [.int .i64 (IntKind.i64.wrap ((0 : Int) - IntKind.i64.wrap (rnd a b c))),
 .bool true])
 [] (r, [])) ∧
 (true = false →
 RetIs (AV.tup [.int .i64 (IntKind.i64.wrap (rnd a b c)), .bool true]) []
 (r, []))) ∧
 (true = false →
 (false = true →
 RetIs
 (AV.tup
 [.int .i64 (IntKind.i64.wrap ((0 : Int) - IntKind.i64.wrap (rnd a b c))),
 .bool true])
 [] (r, [])) ∧
 (false = false →
 RetIs (AV.tup [.int .i64 (IntKind.i64.wrap (rnd a b c)), .bool true]) []
 (r, []))))))) ∧
 (decide (a < (0 : Int)) = false →
 (decide (b < (0 : Int)) = true →
 (decide (c < (0 : Int)) = true →
 (decide (rnd a b c > (1152921504606846976 : Int)) = true →
 RetIs (AV.tup [.int .i64 0, .bool false]) [] (r, [])) ∧
 (decide (rnd a b c > (1152921504606846976 : Int)) = false →
 (true = true →
 (false = true →
 RetIs
 (AV.tup
 [.int .i64 (IntKind.i64.wrap ((0 : Int) - IntKind.i64.wrap (rnd a b c))),
 .bool true])
 [] (r, [])) ∧
 (false = false →
 RetIs (AV.tup [.int .i64 (IntKind.i64.wrap (rnd a b c)), .bool true]) []
 (r, []))) ∧
 (true = false →
 (true = true →
 RetIs
 (AV.tup
 [.int .i64 (IntKind.i64.wrap ((0 : Int) - IntKind.i64.wrap (rnd a b c))),
 .bool true])
 [] (r, [])) ∧
 (true = false →
 RetIs (AV.tup [.int .i64 (IntKind.i64.wrap (rnd a b c)), .bool true]) []
 (r, []))))) ∧
 (decide (c < (0 : Int)) = false →
 (decide (rnd a b c > (1152921504606846976 : Int)) = true →
 RetIs (AV.tup [.int .i64 0, .bool false]) [] (r, [])) ∧
 (decide (rnd a b c > (1152921504606846976 : Int)) = false →
 (true = true →
 (true = true →
 RetIs
 (AV.tup
 [.int .i64 (IntKind.i64.wrap ((0 : Int) - IntKind.i64.wrap (rnd a b c))),
 .bool true])
 [] (r, [])) ∧
 (true = false →
 RetIs (AV.tup [.int .i64 (IntKind.i64.wrap (rnd a b c)), .bool true]) []
 (r, []))) ∧
 (true = false →
 (false = true →
 RetIs
 (AV.tup
 [.int .i64 (IntKind.i64.wrap ((0 : Int) - IntKind.i64.wrap (rnd a b c))),
 .bool true])
 [] (r, [])) ∧
 (false = false →
 RetIs (AV.tup [.int .i64 (IntKind.i64.wrap (rnd a b c)), .bool true]) []
 (r, [])))))) ∧
 (decide (b < (0 : Int)) = false →
 (decide (c < (0 : Int)) = true →
 (decide (rnd a b c > (1152921504606846976 : Int)) = true →
 RetIs (AV.tup [.int .i64 0, .bool false]) [] (r, [])) ∧
 (decide (rnd a b c > (1152921504606846976 : Int)) = false →
 (false = true →
 (false = true →
 RetIs
 (AV.tup
 [.int .i64 (IntKind.i64.wrap ((0 : Int) - IntKind.i64.wrap (rnd a b c))),
 .bool true])
 [] (r, [])) ∧
 (false = false →
 RetIs (AV.tup [.int .i64 (IntKind.i64.wrap (rnd a b c)), .bool true]) []
 (r, []))) ∧
 (false = false →
 (true = true →
 RetIs
 (AV.tup
 [.int .i64 (IntKind.i64.wrap ((0 : Int) - IntKind.i64.wrap (rnd a b c))),
 .bool true])
 [] (r, [])) ∧
 (true = false →
 RetIs (AV.tup [.int .i64 (IntKind.i64.wrap (rnd a b c)), .bool true]) []
 (r, []))))) ∧
 (decide (c < (0 : Int)) = false →
 (decide (rnd a b c > (1152921504606846976 : Int)) = true →
 RetIs (AV.tup [.int .i64 0, .bool false]) [] (r, [])) ∧
 (decide (rnd a b c > (1152921504606846976 : Int)) = false →
 (false = true →
 (true = true →
 RetIs
 (AV.tup
 [.int .i64 (IntKind.i64.wrap ((0 : Int) - IntKind.i64.wrap (rnd a b c))),
 .bool true])
 [] (r, [])) ∧
 (true = false →
 RetIs (AV.tup [.int .i64 (IntKind.i64.wrap (rnd a b c)), .bool true]) []
 (r, []))) ∧
 (false = false →
 (false = true →
 RetIs
 (AV.tup
 [.int .i64 (IntKind.i64.wrap ((0 : Int) - IntKind.i64.wrap (rnd a b c))),
 .bool true])
 [] (r, [])) ∧
 (false = false →
 RetIs (AV.tup [.int .i64 (IntKind.i64.wrap (rnd a b c)), .bool true]) []
 (r, []))))))))) := by kernel_rfl
theorem y34 (x y : Int) (r : AV) : (pureW PA GA XM (tbl [(54, v54)]) (itbl []) nAn [] 34 [.int .i64 x, .int .i64 y] (r, [])) =
(∃ (b : Bool),
  CallIs (some (AV.bool (inR x), [])) (AV.bool b) [] ∧
    (b = true →
        ∃ (b : Bool),
 CallIs (some (AV.bool (inR y), [])) (AV.bool b) [] ∧
 (b = true →
 ∃ (b : Bool),
 CallIs (some (AV.bool (inR (IntKind.i64.wrap (x + y))), [])) (AV.bool b) [] ∧
 (b = true → RetIs (AV.tup [.int .i64 (IntKind.i64.wrap (x + y)), .bool true]) [] (r, [])) ∧
 (b = false → RetIs (AV.tup [.int .i64 0, .bool false]) [] (r, []))) ∧
 (b = false → RetIs (AV.tup [.int .i64 0, .bool false]) [] (r, []))) ∧
      (b = false → RetIs (AV.tup [.int .i64 0, .bool false]) [] (r, []))) := by kernel_rfl
theorem y37 (x : Int) (r : AV) : (pureW PA GA XM (tbl []) (itbl []) nAn [] 37 [.int .i64 x] (r, [])) =
((decide (x < IntKind.i64.wrap ((0 : Int) - (1152921504606 : Int))) = true → RetIs (AV.tup [.int .i64 0, .bool false]) [] (r, [])) ∧
  (decide (x < IntKind.i64.wrap ((0 : Int) - (1152921504606 : Int))) = false →
    (decide (x > (1152921504606 : Int)) = true → RetIs (AV.tup [.int .i64 0, .bool false]) [] (r, [])) ∧
      (decide (x > (1152921504606 : Int)) = false → RetIs (AV.tup [.int .i64 (IntKind.i64.wrap (x * (1000000 : Int))), .bool true]) [] (r, [])))) := by kernel_rfl
theorem y38 (x y : Int) (r : AV) : (pureW PA GA XM (tbl [(54, v54), (58, v58)]) (itbl []) nAn [] 38 [.int .i64 x, .int .i64 y] (r, [])) =
(∃ (b : Bool),
  CallIs (some (AV.bool (inR x), [])) (AV.bool b) [] ∧
    (b = true →
        ∃ (b : Bool),
 CallIs (some (AV.bool (inR y), [])) (AV.bool b) [] ∧
 (b = true →
 ((y == (0 : Int)) = true → RetIs (AV.tup [.int .i64 0, .bool false]) [] (r, [])) ∧
 ((y == (0 : Int)) = false →
 ∃ (n : Int) (b : Bool),
 CallIs
 (tbl [((54 : Nat), v54), ((58 : Nat), v58)] 58
 [.int .i64 x, .int .i64 1000000, .int .i64 y])
 (AV.tup [.int .i64 n, .bool b]) [] ∧
 (b = true → RetIs (AV.tup [.int .i64 n, .bool true]) [] (r, [])) ∧
 (b = false → RetIs (AV.tup [.int .i64 n, .bool false]) [] (r, [])))) ∧
 (b = false → RetIs (AV.tup [.int .i64 0, .bool false]) [] (r, []))) ∧
      (b = false → RetIs (AV.tup [.int .i64 0, .bool false]) [] (r, []))) := by kernel_rfl
end Go.Abs

namespace Go.Abs
open Go.Proofs Go.Proofs.K17 Go.Proofs.D17 Go.RowKit
theorem q54 (n : Int) : PureOk PA GA XM (tbl []) (itbl []) nAn [] 54 [.int .i64 n] (.bool (inR n), []) := by
  constructor
  rw [y54]
  repeat' first
    | apply And.intro
    | intro _
  all_goals refine retIs_iff.2 ?_
  all_goals simp_all [inR]
  all_goals omega
theorem q76 (n : Int) (h : iOk n) : PureOk PA GA XM (tbl []) (itbl []) nAn [] 76 [.int .i64 n] (.tup [.int .u64 n.natAbs, .bool (decide (n < 0))], []) := by
  constructor
  rw [y76]
  unfold iOk at h
  refine ⟨fun c => retIs_iff.2 ?_, fun c => retIs_iff.2 ?_⟩
  · rw [c]
    have c := of_decide_eq_true c
    have : IntKind.u64.wrap (IntKind.i64.wrap (0 - n)) = n.natAbs := by
      rw [iw, wrapU]; unfold wrap64; omega
    rw [this]
  · rw [c]
    have c := of_decide_eq_false c
    have : IntKind.u64.wrap n = n.natAbs := by rw [wrapU]; omega
    rw [this]
theorem q34 (x y : Int) : PureOk PA GA XM (tbl [(54, v54)]) (itbl []) nAn [] 34 [.int .i64 x, .int .i64 y] (tupP (addD x y), []) := by
  constructor
  rw [y34]
  have w : inR x = true → inR y = true → IntKind.i64.wrap (x + y) = x + y := fun h1 h2 => by
    unfold inR at h1 h2
    simp only [Bool.and_eq_true, decide_eq_true_eq] at h1 h2
    exact iwN ⟨by omega, by omega⟩
  refine ⟨_, callIs_iff.2 rfl, fun h1 => ⟨_, callIs_iff.2 rfl, fun h2 => ?_, fun h2 => retIs_iff.2 ?_⟩, fun h1 => retIs_iff.2 ?_⟩
  · rw [w h1 h2]
    refine ⟨_, callIs_iff.2 rfl, fun h3 => retIs_iff.2 ?_, fun h3 => retIs_iff.2 ?_⟩
    · unfold tupP addD; rw [if_pos ⟨h1, h2, h3⟩]
    · unfold tupP addD; rw [if_neg (fun h => by rw [h3] at h; cases h.2.2)]
  · unfold tupP addD; rw [if_neg (fun h => by rw [h2] at h; cases h.2.1)]
  · unfold tupP addD; rw [if_neg (fun h => by rw [h1] at h; cases h.1)]
theorem q37 (x : Int) : PureOk PA GA XM (tbl []) (itbl []) nAn [] 37 [.int .i64 x] (tupP (fromD x), []) := by
  constructor
  rw [y37]
  have w : IntKind.i64.wrap (0 - 1152921504606) = -1152921504606 := by rw [iwN ⟨by omega, by omega⟩]; rfl
  rw [w]
  refine ⟨fun c => retIs_iff.2 ?_, fun c => ⟨fun d => retIs_iff.2 ?_, fun d => retIs_iff.2 ?_⟩⟩
  · have c := of_decide_eq_true c
    unfold tupP fromD; rw [if_neg (by omega)]
  · have d := of_decide_eq_true d
    unfold tupP fromD; rw [if_neg (by omega)]
  · have c := of_decide_eq_false c
    have d := of_decide_eq_false d
    unfold tupP fromD; rw [if_pos (by omega), iwN ⟨by omega, by omega⟩]
theorem q38 (x y : Int) (hy : iOk y) (hx : iOk x) (hq : (x * 1000000).natAbs / y.natAbs < 9223372036854775808) : PureOk PA GA XM (tbl [(54, v54), (58, v58)]) (itbl []) nAn [] 38 [.int .i64 x, .int .i64 y] (tupP (divD x y), []) := by
  constructor
  rw [y38]
  refine ⟨_, callIs_iff.2 rfl, fun h1 => ⟨_, callIs_iff.2 rfl, fun h2 => ⟨fun h3 => retIs_iff.2 ?_, fun h3 => ?_⟩, fun h2 => retIs_iff.2 ?_⟩, fun h1 => retIs_iff.2 ?_⟩
  · have h3 : y = 0 := by simpa using h3
    unfold tupP divD; rw [if_neg (fun h => h.2.2 h3)]
  · have h3 : y ≠ 0 := by simpa using h3
    have e : divD x y = divP (x * 1000000) y := by unfold divD; rw [if_pos ⟨h1, h2, h3⟩]
    refine ⟨_, _, callIs_iff.2 (by rw [tb_miss (by decide), tb_hit]; simp only [v58]; rw [if_pos ⟨hx, by unfold iOk; decide, hy, h3, hq⟩]; rfl), fun b => retIs_iff.2 ?_, fun b => retIs_iff.2 ?_⟩
    · rw [e]; unfold tupP; rw [b]
    · rw [e]; unfold tupP; rw [b]
  · unfold tupP divD; rw [if_neg (fun h => by rw [h2] at h; cases h.2.1)]
  · unfold tupP divD; rw [if_neg (fun h => by rw [h1] at h; cases h.1)]
end Go.Abs

namespace Go.Abs
open Go.Proofs Go.Proofs.K17 Go.Proofs.D17 Go.RowKit
theorem and_one {v : Int} (h : uOk v) : IntKind.u64.wrap ((BitVec.ofInt IntKind.u64.bits v &&& BitVec.ofInt IntKind.u64.bits 1).toNat : Int) = v % 2 := by
  show IntKind.u64.wrap ((BitVec.ofInt 64 v &&& BitVec.ofInt 64 1).toNat : Int) = v % 2
  obtain ⟨h0, h1⟩ := h
  obtain ⟨n, rfl⟩ := Int.eq_ofNat_of_zero_le h0
  have e : (BitVec.ofInt 64 (n : Int) &&& BitVec.ofInt 64 1).toNat = n % 2 := by
    rw [BitVec.toNat_and, BitVec.ofInt_natCast, BitVec.toNat_ofNat, Nat.mod_eq_of_lt (by omega)]
    exact Nat.and_two_pow_sub_one_eq_mod n 1
  rw [e, wrapU]
  omega
theorem scaled_sign {a b c : Int} (hc : c ≠ 0) (h : ¬ 1152921504606846976 < nearN (a * b).natAbs c.natAbs) : divP (a * b) c = (if (decide (a < 0) != decide (b < 0)) = decide (c < 0) then (nearN (a * b).natAbs c.natAbs : Int) else -(nearN (a * b).natAbs c.natAbs : Int), true) := by
  rw [divP_of hc, if_neg h]
  by_cases h0 : a * b = 0
  · have hz : nearN (a * b).natAbs c.natAbs = 0 := by
      rw [h0]; unfold nearN
      have : 0 < c.natAbs := by omega
      simp only [Int.natAbs_zero, Nat.zero_mod, Nat.zero_div, Nat.sub_zero]
      rw [if_neg (by omega)]
    rw [hz]
    split <;> split <;> rfl
  · have ha : a ≠ 0 := fun e => h0 (by rw [e, Int.zero_mul])
    have hb : b ≠ 0 := fun e => h0 (by rw [e, Int.mul_zero])
    have e : decide (a * b < 0) = (decide (a < 0) != decide (b < 0)) := by
      by_cases a1 : a < 0 <;> by_cases b1 : b < 0
      · have := Int.mul_pos_of_neg_of_neg a1 b1
        rw [decide_eq_true a1, decide_eq_true b1, decide_eq_false (by omega)]; rfl
      · have := Int.mul_neg_of_neg_of_pos a1 (show 0 < b by omega)
        rw [decide_eq_true a1, decide_eq_false b1, decide_eq_true this]; rfl
      · have := Int.mul_neg_of_pos_of_neg (show 0 < a by omega) b1
        rw [decide_eq_false a1, decide_eq_true b1, decide_eq_true this]; rfl
      · have := Int.mul_pos (show 0 < a by omega) (show 0 < b by omega)
        rw [decide_eq_false a1, decide_eq_false b1, decide_eq_false (by omega)]; rfl
    rw [e]
end Go.Abs

namespace Go.Abs
open Go.Proofs Go.Proofs.K17 Go.Proofs.D17 Go.RowKit
/-- the end of scaled: the sign -/
def End58 (p q s : Bool) (rr : Int) (V : AV × List (Nat × TypeId)) : Prop :=
  (decide (rr > (1152921504606846976 : Int)) = true → RetIs (.tup [.int .i64 0, .bool false]) [] V) ∧
  (decide (rr > (1152921504606846976 : Int)) = false →
    ((p != q) = true → ((!s) = true → RetIs (.tup [.int .i64 (IntKind.i64.wrap (0 - IntKind.i64.wrap rr)), .bool true]) [] V) ∧ ((!s) = false → RetIs (.tup [.int .i64 (IntKind.i64.wrap rr), .bool true]) [] V)) ∧
    ((p != q) = false → (s = true → RetIs (.tup [.int .i64 (IntKind.i64.wrap (0 - IntKind.i64.wrap rr)), .bool true]) [] V) ∧ (s = false → RetIs (.tup [.int .i64 (IntKind.i64.wrap rr), .bool true]) [] V)))
theorem end58 {a b c : Int} (h0 : c ≠ 0) {rr : Int} (hr : rr = (nearN (a * b).natAbs c.natAbs : Nat)) {p q s : Bool} (hp : decide (a < 0) = p) (hq : decide (b < 0) = q) (hs : decide (c < 0) = s) : End58 p q s rr (tupP (divP (a * b) c), []) := by
  have S := fun h => scaled_sign (a := a) (b := b) h0 h
  have D0 : 1152921504606846976 < nearN (a * b).natAbs c.natAbs → divP (a * b) c = (0, false) := fun h => by rw [divP_of h0, if_pos h]
  subst hp; subst hq; subst hs
  generalize decide (a < 0) = p at *
  generalize decide (b < 0) = q at *
  generalize decide (c < 0) = s at *
  generalize divP (a * b) c = D at *
  generalize nearN (a * b).natAbs c.natAbs = N at *
  subst hr
  refine ⟨fun g => ?_, fun g => ?_⟩
  · have g := of_decide_eq_true g
    rw [D0 (by omega)]; exact retIs_iff.2 rfl
  · have g := of_decide_eq_false g
    rw [S (by omega)]
    have w1 : IntKind.i64.wrap (N : Int) = N := iwN ⟨by omega, by omega⟩
    have w2 : IntKind.i64.wrap (0 - (N : Int)) = -N := by rw [iwN ⟨by omega, by omega⟩]; omega
    rw [w1, w2]
    clear S D0 g w1 w2
    cases p <;> cases q <;> cases s <;> refine ⟨fun h => ⟨fun h' => ?_, fun h' => ?_⟩, fun h => ⟨fun h' => ?_, fun h' => ?_⟩⟩ <;> first | exact retIs_iff.2 rfl | exact absurd h (by decide) | exact absurd h' (by decide)
abbrev t58 : List (FuncId × Spec) := [(76, v76), (65, s54), (43, s57)]
theorem m76 {n : Int} (h : iOk n) : tbl t58 76 [.int .i64 n] = some (.tup [.int .u64 n.natAbs, .bool (decide (n < 0))], []) := by
  rw [tb_hit]; simp only [v76]; rw [if_pos h]
set_option maxHeartbeats 1000000 in
theorem q58 (a b c : Int) (ha : iOk a) (hb : iOk b) (hc : iOk c) (h0 : c ≠ 0) (hq : (a * b).natAbs / c.natAbs < 9223372036854775808) : PureOk PA GA XM (tbl [(76, v76), (65, s54), (43, s57)]) (itbl []) (a58 a b c) [] 58 [.int .i64 a, .int .i64 b, .int .i64 c] (tupP (divP (a * b) c), []) := by
  constructor
  rw [y58]
  have uA : uOk (a.natAbs : Int) := by unfold iOk at ha; unfold uOk; omega
  have uB : uOk (b.natAbs : Int) := by unfold iOk at hb; unfold uOk; omega
  have hC : (c.natAbs : Int) ≤ 9223372036854775808 := by unfold iOk at hc; omega
  have hC0 : 0 < c.natAbs := by omega
  have eX : ((a.natAbs : Int) * (b.natAbs : Int)) = ((a * b).natAbs : Int) := by rw [Int.natAbs_mul]; simp
  have hX : ((a * b).natAbs : Int) ≤ 85070591730234615865843651857942052864 := by
    rw [← eX]
    unfold iOk at ha hb
    have := Int.mul_le_mul_of_nonneg_right (show (a.natAbs : Int) ≤ 9223372036854775808 by omega) (show (0 : Int) ≤ b.natAbs by omega)
    omega
  have hM : tbl t58 65 [.int .u64 a.natAbs, .int .u64 b.natAbs] = some (.tup [.int .u64 (((a * b).natAbs : Int) / 18446744073709551616), .int .u64 (((a * b).natAbs : Int) % 18446744073709551616)], []) := by
    rw [tb_miss (by decide), tb_hit]; simp only [s54]; rw [if_pos ⟨uA, uB⟩, eX]
  have D0 : 1152921504606846976 < nearN (a * b).natAbs c.natAbs → divP (a * b) c = (0, false) := fun h => by rw [divP_of h0, if_pos h]
  have hr : rnd a b c = (nearN (a * b).natAbs c.natAbs : Nat) := rfl
  have E := fun {p q s} => end58 (a := a) (b := b) h0 hr (p := p) (q := q) (s := s)
  generalize (a * b).natAbs = X at *
  generalize hCe : c.natAbs = C at *
  have far : decide ((X : Int) / 18446744073709551616 ≥ (C : Int)) = true → divP (a * b) c = (0, false) := fun h => by
    have h := of_decide_eq_true h
    have h2 : C * 18446744073709551616 ≤ X := by omega
    have h3 : 18446744073709551616 ≤ X / C := (Nat.le_div_iff_mul_le hC0).2 (by rw [Nat.mul_comm]; exact h2)
    exact D0 (by have := near_ge X C; omega)
  have hD : decide ((X : Int) / 18446744073709551616 ≥ (C : Int)) = false → tbl t58 43 [.int .u64 ((X : Int) / 18446744073709551616), .int .u64 ((X : Int) % 18446744073709551616), .int .u64 C] = some (.tup [.int .u64 ((X / C : Nat) : Int), .int .u64 ((X % C : Nat) : Int)], []) := fun h => by
    have h := of_decide_eq_false h
    rw [tb_miss (by decide), tb_miss (by decide), tb_hit]; simp only [s57]
    have e : (X : Int) / 18446744073709551616 * 18446744073709551616 + (X : Int) % 18446744073709551616 = X := by omega
    rw [if_pos ⟨⟨by omega, by omega⟩, ⟨by omega, by omega⟩, ⟨by omega, by omega⟩, by omega⟩, e]
    simp
  have hrl : X % C < C := Nat.mod_lt X hC0
  have w2 : IntKind.u64.wrap (2 * ((X % C : Nat) : Int)) = 2 * ((X % C : Nat) : Int) := by
    generalize X % C = R at hrl ⊢
    rw [wrapU]; omega
  have hn : nearN X C ≤ X / C + 1 := by unfold nearN; split <;> omega
  have small : rnd a b c < 18446744073709551616 := by rw [hr]; omega
  have wq : IntKind.u64.wrap (((X / C : Nat) : Int) + 1) = ((X / C + 1 : Nat) : Int) := by rw [wrapU]; omega
  have up : (C - X % C < X % C ∨ (X % C = C - X % C ∧ X / C % 2 = 1)) → IntKind.u64.wrap (((X / C : Nat) : Int) + 1) = rnd a b c := fun h => by rw [wq, hr]; unfold nearN; rw [if_pos h]
  have down : ¬ (C - X % C < X % C ∨ (X % C = C - X % C ∧ X / C % 2 = 1)) → ((X / C : Nat) : Int) = rnd a b c := fun h => by rw [hr]; unfold nearN; rw [if_neg h]
  have hand : IntKind.u64.wrap ((BitVec.ofInt IntKind.u64.bits ((X / C : Nat) : Int) &&& BitVec.ofInt IntKind.u64.bits 1).toNat : Int) = ((X / C % 2 : Nat) : Int) := by
    generalize X / C = Q at hq ⊢
    rw [and_one ⟨by omega, by omega⟩]; omega
  refine ⟨⟨_, _, callIs_iff.2 (m76 ha), fun a1 => ⟨(), ⟨by rw [a1]⟩, ⟨rfl⟩, trivial, trivial⟩, fun a1 => ⟨(), ⟨by rw [a1]⟩, ⟨rfl⟩, trivial, trivial⟩⟩, fun _ _ _ => ⟨⟨_, _, callIs_iff.2 (m76 hb), fun b1 => ⟨(), ⟨by rw [b1]⟩, ⟨rfl⟩, trivial, trivial⟩, fun b1 => ⟨(), ⟨by rw [b1]⟩, ⟨rfl⟩, trivial, trivial⟩⟩, fun _ _ _ => ⟨⟨_, _, callIs_iff.2 (m76 hc), fun c1 => ⟨(), ⟨by rw [c1, hCe]⟩, ⟨rfl⟩, trivial, trivial⟩, fun c1 => ⟨(), ⟨by rw [c1, hCe]⟩, ⟨rfl⟩, trivial, trivial⟩⟩, fun _ _ _ => ?_⟩⟩⟩
  all_goals refine ⟨_, _, callIs_iff.2 hM, fun c1 => retIs_iff.2 (by rw [far c1]; rfl), fun c1 => ⟨_, _, callIs_iff.2 (hD c1), ⟨fun c2 => ⟨(), ⟨?_⟩, ⟨rfl⟩, small, trivial⟩, fun c2 => ⟨fun c3 => ⟨fun c4 => ⟨(), ⟨?_⟩, ⟨rfl⟩, small, trivial⟩, fun c4 => ⟨(), ⟨?_⟩, ⟨rfl⟩, small, trivial⟩⟩, fun c3 => ⟨(), ⟨?_⟩, ⟨rfl⟩, small, trivial⟩⟩⟩, fun _ _ _ => ?_⟩⟩
  all_goals first
    | (rw [up (.inl (by have c2 := of_decide_eq_true c2; rw [w2] at c2; omega))])
    | (rw [up (.inr ⟨by have c3 := eq_of_beq c3; rw [w2] at c3; omega, by have c4 := eq_of_beq c4; rw [hand] at c4; omega⟩)])
    | (rw [down (by
        have c2 := of_decide_eq_false c2
        have c3 := ne_of_beq_false c3
        rw [w2] at c2 c3
        omega)])
    | (rw [down (by
        have c2 := of_decide_eq_false c2
        have c3 := eq_of_beq c3
        have c4 := ne_of_beq_false c4
        rw [w2] at c2 c3
        rw [hand] at c4
        omega)])
    | skip
  all_goals exact ⟨fun p => ⟨fun q => ⟨fun s => E p q s, fun s => E p q s⟩, fun q => ⟨fun s => E p q s, fun s => E p q s⟩⟩, fun p => ⟨fun q => ⟨fun s => E p q s, fun s => E p q s⟩, fun q => ⟨fun s => E p q s, fun s => E p q s⟩⟩⟩
end Go.Abs

namespace Go.Abs
open Go.Proofs Go.Proofs.K17 Go.Proofs.D17 Go.RowKit
theorem j54 : SpecOk PA GA 54 v54 := spec_of (X := XM) (m := []) mixedA tbl_nil itbl_nil fun args r h => by
  unfold v54 at h
  split at h
  case h_2 => cases h
  injection h with h; subst h
  exact ⟨_, q54 _⟩
theorem j76 : SpecOk PA GA 76 v76 := spec_of (X := XM) (m := []) mixedA tbl_nil itbl_nil fun args r h => by
  unfold v76 at h
  split at h
  case h_2 => cases h
  split at h
  case isFalse => cases h
  rename_i hc
  injection h with h; subst h
  exact ⟨_, q76 _ hc⟩
theorem j58 : SpecOk PA GA 58 v58 := spec_of (X := XM) (m := []) mixedA (tbl_cons j76 (tbl_cons o54 (tbl_cons o57 tbl_nil))) itbl_nil fun args r h => by
  unfold v58 at h
  split at h
  case h_2 => cases h
  split at h
  case isFalse => cases h
  rename_i hc
  injection h with h; subst h
  exact ⟨_, q58 _ _ _ hc.1 hc.2.1 hc.2.2.1 hc.2.2.2.1 hc.2.2.2.2⟩
theorem j34 : SpecOk PA GA 34 v34 := spec_of (X := XM) (m := []) mixedA (tbl_cons j54 tbl_nil) itbl_nil fun args r h => by
  unfold v34 at h
  split at h
  case h_2 => cases h
  injection h with h; subst h
  exact ⟨_, q34 _ _⟩
theorem j37 : SpecOk PA GA 37 v37 := spec_of (X := XM) (m := []) mixedA tbl_nil itbl_nil fun args r h => by
  unfold v37 at h
  split at h
  case h_2 => cases h
  injection h with h; subst h
  exact ⟨_, q37 _⟩
theorem j38 : SpecOk PA GA 38 v38 := spec_of (X := XM) (m := []) mixedA (tbl_cons j54 (tbl_cons j58 tbl_nil)) itbl_nil fun args r h => by
  unfold v38 at h
  split at h
  case h_2 => cases h
  split at h
  case isFalse => cases h
  rename_i hc
  injection h with h; subst h
  exact ⟨_, q38 _ _ hc.2.1 hc.1 hc.2.2⟩
end Go.Abs

namespace Go.Abs
open Go.Proofs Go.Proofs.K17 Go.Proofs.D17 Go.RowKit
theorem x3 (kind : Int) (l : List ItI) (p : Int) (r : AV) : (pureW PA GA XU RQ (itbl []) (b3 kind l p) [] 3 [.int .i64 kind, .sl 6 (itsL l) .no, .int .i64 p] (r, [])) =
(CallIs (some (AV.bool true, [])) (AV.bool true) [] ∧
  (true = true →
      ∃ (b : Bool),
        CallIs (RQ ((8 : Nat)) [AV.int IntKind.i64 kind, AV.sl ((6 : Nat)) (itsL l) Own.no]) (AV.bool b) [] ∧
 (b = true →
 (((↑(itsL l).length : Int) == (0 : Int)) = true → RetIs (AV.bool true) [] (r, [])) ∧
 (((↑(itsL l).length : Int) == (0 : Int)) = false →
 (∃ (n : Int),
 ∃ (n_1 : Int),
 ∃ (n_2 : Int),
 ∃ (es : List AV),
 ∃ (es_1 : List AV),
 CallIs
 (RQ ((10 : Nat))
 [AV.str
 [(113 : UInt8), (117 : UInt8), (97 : UInt8), (110 : UInt8), (116 : UInt8), (105 : UInt8), (108 : UInt8), (101 : UInt8)],
 AV.sl ((6 : Nat)) (itsL l) Own.no])
 (AV.agg
 [AV.int IntKind.i64 n, AV.int IntKind.i64 n_1, AV.int IntKind.u64 n_2, AV.sl ((6 : Nat)) es Own.no,
 AV.sl ((2 : Nat)) es_1 Own.no])
 [] ∧
 ∃ (n_3 : Int),
 ∃ (n_4 : Int),
 ∃ (s : List UInt8),
 CallIs
 (RQ ((9 : Nat))
 [AV.agg
 [AV.int IntKind.i64 (5 : Int),
 AV.str
 [(113 : UInt8), (117 : UInt8), (97 : UInt8), (110 : UInt8), (116 : UInt8), (105 : UInt8), (108 : UInt8),
 (101 : UInt8)],
 AV.str [], AV.str [], AV.int IntKind.i64 (0 : Int), AV.int IntKind.i64 (0 : Int), AV.str [],
 AV.sl ((0 : Nat)) [] Own.nil, AV.int IntKind.i64 p, AV.int IntKind.i64 (0 : Int),
 AV.int IntKind.i64 (0 : Int), AV.sl ((0 : Nat)) [] Own.nil],
 AV.int IntKind.i64 kind,
 AV.sl ((6 : Nat))
 [AV.agg
 [AV.int IntKind.i64 (0 : Int), AV.int IntKind.i64 n, AV.int IntKind.i64 n_1, AV.int IntKind.u64 n_2,
 AV.sl ((6 : Nat)) es Own.no, AV.sl ((2 : Nat)) es_1 Own.no]]
 Own.full,
 AV.int IntKind.i64 (0 : Int)])
 (AV.agg [AV.int IntKind.i64 n_3, AV.int IntKind.i64 n_4, AV.str s]) [] ∧
 ∃ (_y : Unit),
 ValsAre
 [AV.int IntKind.i64 kind, AV.sl ((6 : Nat)) (itsL l) Own.no, AV.int IntKind.i64 p, AV.ptr ((0 : Nat)) ((0 : Nat)),
 AV.ptr ((1 : Nat)) ((0 : Nat))]
 [AV.int IntKind.i64 kind, AV.sl ((6 : Nat)) (itsL l) Own.no, AV.int IntKind.i64 p, AV.ptr ((0 : Nat)) ((0 : Nat)),
 AV.ptr ((1 : Nat)) ((0 : Nat))] ∧
 StIs
 { boxes := [some [AV.int IntKind.i64 (5 : Int), AV.str [(113 : UInt8), (117 : UInt8), (97 : UInt8), (110 : UInt8), (116 : UInt8), (105 : UInt8), (108 : UInt8), (101 : UInt8)], AV.str [], AV.str [], AV.int IntKind.i64 (0 : Int), AV.int IntKind.i64 (0 : Int), AV.str [], AV.sl ((0 : Nat)) [] Own.nil, AV.int IntKind.i64 p, AV.int IntKind.i64 (0 : Int), AV.int IntKind.i64 (0 : Int), AV.sl ((0 : Nat)) [] Own.nil], some [AV.int IntKind.i64 n_3, AV.int IntKind.i64 n_4, AV.str s]], live := [] }
 { boxes := [some [AV.int IntKind.i64 (5 : Int), AV.str [(113 : UInt8), (117 : UInt8), (97 : UInt8), (110 : UInt8), (116 : UInt8), (105 : UInt8), (108 : UInt8), (101 : UInt8)], AV.str [], AV.str [], AV.int IntKind.i64 (0 : Int), AV.int IntKind.i64 (0 : Int), AV.str [], AV.sl ((0 : Nat)) [] Own.nil, AV.int IntKind.i64 p, AV.int IntKind.i64 (0 : Int), AV.int IntKind.i64 (0 : Int), AV.sl ((0 : Nat)) [] Own.nil], some [AV.int IntKind.i64 (valQ kind l p).k, AV.int IntKind.i64 (valQ kind l p).n, AV.str (valQ kind l p).s]], live := [] } ∧
 True ∧ True) ∧
 ∀ (_x : Unit),
 True →
 True →
 (decide (p < (1 : Int)) = true →
 (((valQ kind l p).k == (0 : Int) && ((valQ kind l p).n == (0 : Int) && ((valQ kind l p).s == [] && true))) = true →
 RetIs (AV.bool true) [] (r, [])) ∧
 (((valQ kind l p).k == (0 : Int) && ((valQ kind l p).n == (0 : Int) && ((valQ kind l p).s == [] && true))) = false →
 RetIs (AV.bool false) [] (r, []))) ∧
 (decide (p < (1 : Int)) = false →
 (decide (p > (1000 : Int)) = true →
 (((valQ kind l p).k == (0 : Int) && ((valQ kind l p).n == (0 : Int) && ((valQ kind l p).s == [] && true))) = true →
 RetIs (AV.bool true) [] (r, [])) ∧
 (((valQ kind l p).k == (0 : Int) && ((valQ kind l p).n == (0 : Int) && ((valQ kind l p).s == [] && true))) = false →
 RetIs (AV.bool false) [] (r, []))) ∧
 (decide (p > (1000 : Int)) = false →
 ((1000 : Int) ≠ (0 : Int) ∧
 ∃ (_y : Unit),
 ValsAre
 [AV.int IntKind.i64 kind, AV.sl ((6 : Nat)) (itsL l) Own.no, AV.int IntKind.i64 p, AV.ptr ((0 : Nat)) ((0 : Nat)),
 AV.ptr ((1 : Nat)) ((0 : Nat)),
 AV.int IntKind.i64
 (max
 (IntKind.i64.wrap
 ((IntKind.i64.wrap (IntKind.i64.wrap (p * (↑(itsL l).length : Int)) + (999 : Int))).tdiv (1000 : Int)))
 (1 : Int))]
 [AV.int IntKind.i64 kind, AV.sl ((6 : Nat)) (itsL l) Own.no, AV.int IntKind.i64 p, AV.ptr ((0 : Nat)) ((0 : Nat)),
 AV.ptr ((1 : Nat)) ((0 : Nat)), AV.int IntKind.i64 (placeQ l p)] ∧
 StIs
 { boxes := [some [AV.int IntKind.i64 (5 : Int), AV.str [(113 : UInt8), (117 : UInt8), (97 : UInt8), (110 : UInt8), (116 : UInt8), (105 : UInt8), (108 : UInt8), (101 : UInt8)], AV.str [], AV.str [], AV.int IntKind.i64 (0 : Int), AV.int IntKind.i64 (0 : Int), AV.str [], AV.sl ((0 : Nat)) [] Own.nil, AV.int IntKind.i64 p, AV.int IntKind.i64 (0 : Int), AV.int IntKind.i64 (0 : Int), AV.sl ((0 : Nat)) [] Own.nil], some [AV.int IntKind.i64 (valQ kind l p).k, AV.int IntKind.i64 (valQ kind l p).n, AV.str (valQ kind l p).s]], live := [] }
 { boxes := [some [AV.int IntKind.i64 (5 : Int), AV.str [(113 : UInt8), (117 : UInt8), (97 : UInt8), (110 : UInt8), (116 : UInt8), (105 : UInt8), (108 : UInt8), (101 : UInt8)], AV.str [], AV.str [], AV.int IntKind.i64 (0 : Int), AV.int IntKind.i64 (0 : Int), AV.str [], AV.sl ((0 : Nat)) [] Own.nil, AV.int IntKind.i64 p, AV.int IntKind.i64 (0 : Int), AV.int IntKind.i64 (0 : Int), AV.sl ((0 : Nat)) [] Own.nil], some [AV.int IntKind.i64 (valQ kind l p).k, AV.int IntKind.i64 (valQ kind l p).n, AV.str (valQ kind l p).s]], live := [] } ∧
 True ∧ True) ∧
 ∀ (_x : Unit),
 True →
 True →
 ∃ (n : Int),
 CallIs (RQ ((11 : Nat)) [AV.sl ((6 : Nat)) (itsL l) Own.no, AV.int IntKind.i64 (placeQ l p)]) (AV.int IntKind.i64 n)
 [] ∧
 (((valQ kind l p).k != kind) = true →
 (((valQ kind l p).k == kind && ((valQ kind l p).n == (0 : Int) && ((valQ kind l p).s == [] && true))) = true →
 RetIs (AV.bool true) [] (r, [])) ∧
 (((valQ kind l p).k == kind && ((valQ kind l p).n == (0 : Int) && ((valQ kind l p).s == [] && true))) =
 false →
 RetIs (AV.bool false) [] (r, []))) ∧
 (((valQ kind l p).k != kind) = false →
 ((n == (0 : Int)) = true →
 (((valQ kind l p).k == kind && ((valQ kind l p).n == (0 : Int) && ((valQ kind l p).s == [] && true))) =
 true →
 RetIs (AV.bool true) [] (r, [])) ∧
 (((valQ kind l p).k == kind && ((valQ kind l p).n == (0 : Int) && ((valQ kind l p).s == [] && true))) =
 false →
 RetIs (AV.bool false) [] (r, []))) ∧
 ((n == (0 : Int)) = false →
 (decide ((valQ kind l p).n < (0 : Int)) = true →
 (decide (n < (0 : Int)) = true →
 (true = true →
 (decide
 (IntKind.i64.wrap
 (max n (IntKind.i64.wrap ((0 : Int) - n)) -
 max (valQ kind l p).n (IntKind.i64.wrap ((0 : Int) - (valQ kind l p).n))) ≥
 (0 : Int)) =
 true →
 (32 : Int) ≠ (0 : Int) ∧
 (decide
 (IntKind.i64.wrap
 (max n (IntKind.i64.wrap ((0 : Int) - n)) -
 max (valQ kind l p).n
 (IntKind.i64.wrap ((0 : Int) - (valQ kind l p).n))) ≤
 IntKind.i64.wrap
 ((IntKind.i64.wrap
 (max n (IntKind.i64.wrap ((0 : Int) - n)) - (1 : Int))).tdiv
 (32 : Int))) =
 true →
 RetIs (AV.bool true) [] (r, [])) ∧
 (decide
 (IntKind.i64.wrap
 (max n (IntKind.i64.wrap ((0 : Int) - n)) -
 max (valQ kind l p).n
 (IntKind.i64.wrap ((0 : Int) - (valQ kind l p).n))) ≤
 IntKind.i64.wrap
 ((IntKind.i64.wrap
 (max n (IntKind.i64.wrap ((0 : Int) - n)) - (1 : Int))).tdiv
 (32 : Int))) =
 false →
 RetIs (AV.bool false) [] (r, []))) ∧
 (decide
 (IntKind.i64.wrap
 (max n (IntKind.i64.wrap ((0 : Int) - n)) -
 max (valQ kind l p).n (IntKind.i64.wrap ((0 : Int) - (valQ kind l p).n))) ≥
 (0 : Int)) =
 false →
 RetIs (AV.bool false) [] (r, []))) ∧
 (true = false → RetIs (AV.bool false) [] (r, []))) ∧
 (decide (n < (0 : Int)) = false →
 (false = true →
 (decide
 (IntKind.i64.wrap
 (max n (IntKind.i64.wrap ((0 : Int) - n)) -
 max (valQ kind l p).n (IntKind.i64.wrap ((0 : Int) - (valQ kind l p).n))) ≥
 (0 : Int)) =
 true →
 (32 : Int) ≠ (0 : Int) ∧
 (decide
 (IntKind.i64.wrap
 (max n (IntKind.i64.wrap ((0 : Int) - n)) -
 max (valQ kind l p).n
 (IntKind.i64.wrap ((0 : Int) - (valQ kind l p).n))) ≤
 IntKind.i64.wrap
 ((IntKind.i64.wrap
 (max n (IntKind.i64.wrap ((0 : Int) - n)) - (1 : Int))).tdiv
 (32 : Int))) =
 true →
 RetIs (AV.bool true) [] (r, [])) ∧
 (decide
 (IntKind.i64.wrap
 (max n (IntKind.i64.wrap ((0 : Int) - n)) -
 max (valQ kind l p).n
 (IntKind.i64.wrap ((0 : Int) - (valQ kind l p).n))) ≤
 IntKind.i64.wrap
 ((IntKind.i64.wrap
 (max n (IntKind.i64.wrap ((0 : Int) - n)) - (1 : Int))).tdiv
 (32 : Int))) =
 false →
 RetIs (AV.bool false) [] (r, []))) ∧
 (decide
 (IntKind.i64.wrap
 (max n (IntKind.i64.wrap ((0 : Int) - n)) -
 max (valQ kind l p).n (IntKind.i64.wrap ((0 : Int) - (valQ kind l p).n))) ≥
 (0 : Int)) =
 false →
 RetIs (AV.bool false) [] (r, []))) ∧
 (false = false → RetIs (AV.bool false) [] (r, [])))) ∧
 (decide ((valQ kind l p).n < (0 : Int)) = false →
 (decide (n < (0 : Int)) = true →
 (false = true →
 (decide
 (IntKind.i64.wrap
 (max n (IntKind.i64.wrap ((0 : Int) - n)) -
 max (valQ kind l p).n (IntKind.i64.wrap ((0 : Int) - (valQ kind l p).n))) ≥
 (0 : Int)) =
 true →
 (32 : Int) ≠ (0 : Int) ∧
 (decide
 (IntKind.i64.wrap
 (max n (IntKind.i64.wrap ((0 : Int) - n)) -
 max (valQ kind l p).n
 (IntKind.i64.wrap ((0 : Int) - (valQ kind l p).n))) ≤
 IntKind.i64.wrap
 ((IntKind.i64.wrap
 (max n (IntKind.i64.wrap ((0 : Int) - n)) - (1 : Int))).tdiv
 (32 : Int))) =
 true →
 RetIs (AV.bool true) [] (r, [])) ∧
 (decide
 (IntKind.i64.wrap
 (max n (IntKind.i64.wrap ((0 : Int) - n)) -
 max (valQ kind l p).n
 (IntKind.i64.wrap ((0 : Int) - (valQ kind l p).n))) ≤
 IntKind.i64.wrap
 ((IntKind.i64.wrap
 (max n (IntKind.i64.wrap ((0 : Int) - n)) - (1 : Int))).tdiv
 (32 : Int))) =
 false →
 RetIs (AV.bool false) [] (r, []))) ∧
 (decide
 (IntKind.i64.wrap
 (max n (IntKind.i64.wrap ((0 : Int) - n)) -
 max (valQ kind l p).n (IntKind.i64.wrap ((0 : Int) - (valQ kind l p).n))) ≥
 (0 : Int)) =
 false →
 RetIs (AV.bool false) [] (r, []))) ∧
 (false = false → RetIs (AV.bool false) [] (r, []))) ∧
 (decide (n < (0 : Int)) = false →
 (true = true →
 (decide
 (IntKind.i64.wrap
 (max n (IntKind.i64.wrap ((0 : Int) - n)) -
 max (valQ kind l p).n (IntKind.i64.wrap ((0 : Int) - (valQ kind l p).n))) ≥
 (0 : Int)) =
 true →
 (32 : Int) ≠ (0 : Int) ∧
 (decide
 (IntKind.i64.wrap
 (max n (IntKind.i64.wrap ((0 : Int) - n)) -
 max (valQ kind l p).n
 (IntKind.i64.wrap ((0 : Int) - (valQ kind l p).n))) ≤
 IntKind.i64.wrap
 ((IntKind.i64.wrap
 (max n (IntKind.i64.wrap ((0 : Int) - n)) - (1 : Int))).tdiv
 (32 : Int))) =
 true →
 RetIs (AV.bool true) [] (r, [])) ∧
 (decide
 (IntKind.i64.wrap
 (max n (IntKind.i64.wrap ((0 : Int) - n)) -
 max (valQ kind l p).n
 (IntKind.i64.wrap ((0 : Int) - (valQ kind l p).n))) ≤
 IntKind.i64.wrap
 ((IntKind.i64.wrap
 (max n (IntKind.i64.wrap ((0 : Int) - n)) - (1 : Int))).tdiv
 (32 : Int))) =
 false →
 RetIs (AV.bool false) [] (r, []))) ∧
 (decide
 (IntKind.i64.wrap
 (max n (IntKind.i64.wrap ((0 : Int) - n)) -
 max (valQ kind l p).n (IntKind.i64.wrap ((0 : Int) - (valQ kind l p).n))) ≥
 (0 : Int)) =
 false →
 RetIs (AV.bool false) [] (r, []))) ∧
 (true = false → RetIs (AV.bool false) [] (r, [])))))))))) ∧
 (b = false → RetIs (AV.bool true) [] (r, []))) ∧
    (true = false → RetIs (AV.bool false) [] (r, []))) := by kernel_rfl
end Go.Abs

namespace Go.Abs
open Go.Proofs Go.Proofs.K17 Go.Proofs.D17 Go.RowKit
theorem nuQ_of {kind : Int} {l : List ItI} (h : nuP kind l = true) (ok : ∀ x ∈ l, itOk x) : NuQ l ∧ (kind = 2 ∨ kind = 3) ∧ ∀ x ∈ l, x.k = kind ∧ x.s = [] := by
  unfold nuP at h
  simp only [Bool.and_eq_true, Bool.or_eq_true, beq_iff_eq] at h
  obtain ⟨⟨h1, h2⟩, h3⟩ := h
  have h4 : l.length ≤ 40 := by
    unfold smallP at h2
    simp only [Bool.and_eq_true, decide_eq_true_eq] at h2
    exact h2.2
  have each : ∀ x ∈ l, x.c = 1 ∧ x.k = kind ∧ ckP x.k x.n x.s = 0 := fun x hx => by
    have := List.all_eq_true.1 h1 x hx
    unfold nuI at this
    simp only [Bool.and_eq_true, beq_iff_eq, decide_eq_true_eq] at this
    exact ⟨this.1.1, this.1.2, this.2⟩
  have val : ∀ x ∈ l, inR x.n = true ∧ x.s = [] := fun x hx => by
    obtain ⟨_, e2, e3⟩ := each x hx
    unfold ckP at e3
    split at e3
    · omega
    · rename_i hfd
      split at e3
      · omega
      · rename_i hin
        constructor
        · cases hh : inR x.n with
          | true => rfl
          | false => exact absurd (.inl hh) hin
        · unfold fdP at hfd
          rw [e2] at hfd
          rcases h3 with h3 | h3 <;> subst h3 <;> simpa using hfd
  exact ⟨⟨h4, fun x hx => (each x hx).1, fun x hx => by have := (val x hx).1; unfold inR at this; simpa using this, ok⟩, h3, fun x hx => ⟨(each x hx).2.1, (val x hx).2⟩⟩
abbrev tQ : List (FuncId × Spec) := [(7, s7), (8, v8), (10, s12), (9, s18), (11, v11)]
theorem sq8 {kind : Int} {l : List ItI} (h : l.length ≤ maxLen) : tbl tQ 8 [.int .i64 kind, .sl 6 (itsL l) .no] = some (.bool (nuP kind l), []) := by
  rw [tb_miss (by decide), tb_hit]; simp only [v8, show unL unI (itsL l) = some l from unL_map unI_ok l]
  rw [if_pos ⟨.inl trivial, h⟩]
theorem sq10 {op : List UInt8} {l : List ItI} (h : l.length ≤ 1000) (hx : ∀ x ∈ l, itOk x) : tbl tQ 10 [.str op, .sl 6 (itsL l) .no] = some (stA (ofP op l), []) := by
  rw [tb_miss (by decide), tb_miss (by decide), tb_hit]; simp only [s12, show unL unI (itsL l) = some l from unL_map unI_ok l]
  rw [if_pos ⟨.inl trivial, h, hx⟩]
theorem sq9 {op : List UInt8} {param kind t : Int} {o : Own} {C : List CeI} (hC : cesOk C) (hp : iOk param) : tbl tQ 9 [.agg (exC 5 op param), .int .i64 kind, .sl 6 (cesL C) o, .int .i64 t] = some (resP op param kind C t, []) := by
  rw [tb_miss (by decide), tb_miss (by decide), tb_miss (by decide), tb_hit]
  simp only [s18, show unL unCe (cesL C) = some C from unL_map unCe_ok C]
  rw [if_pos ⟨⟨⟨rfl, rfl, rfl⟩, by simp⟩, .inl trivial, hC, hp⟩]
theorem sq11 {l : List ItI} {r : Int} (h : l.length ≤ 1000) : tbl tQ 11 [.sl 6 (itsL l) .no, .int .i64 r] = some (.int .i64 (rankP l r), []) := by
  rw [tb_miss (by decide), tb_miss (by decide), tb_miss (by decide), tb_miss (by decide), tb_hit]
  simp only [v11, show unL unI (itsL l) = some l from unL_map unI_ok l]
  rw [if_pos ⟨.inl trivial, h⟩]
theorem res_q {kind p : Int} {l : List ItI} (h : NuQ l) (hk : kind = 2 ∨ kind = 3) (h0 : l ≠ []) : resP bQuantile p kind [⟨0, ofP bQuantile l⟩] 0 = .agg (bC (valQ kind l p)) := by
  have S := stOf_of famQ h.ok
  have hN : 1 ≤ l.length := List.length_pos_iff.2 h0
  have hl := h.len
  have hsm : sm ItI.c l = l.length := by
    have : ∀ l : List ItI, (∀ x ∈ l, x.c = 1) → sm ItI.c l = l.length := by
      intro l
      induction l with
      | nil => intro _; rfl
      | cons x l ih =>
        intro hh
        have h1 := hh x (by simp)
        have h2 := ih fun y hy => hh y (by simp [hy])
        show x.c + sm ItI.c l = ((l.length + 1 : Nat) : Int)
        omega
    exact this l h.one
  have hc : cntP [⟨0, ofP bQuantile l⟩] = l.length := by
    show wrap64 (0 + (ofP bQuantile l).n) = _
    rw [S.n, hsm, Int.zero_add, w64_in (w64_iOk _), w64_in ⟨by omega, by omega⟩]
  unfold resP
  rw [famQ]
  simp only
  rw [hc, if_neg (fun hh => by have := hh.1; omega)]
  show smpV p kind _ = _
  obtain ⟨b1, b2, _⟩ := S.b.1 rfl
  have e : mrgB [⟨0, ofP bQuantile l⟩] = (ofP bQuantile l).bks := by
    show normB ([] ++ (ofP bQuantile l).bks) = _
    rw [List.nil_append, norm_self b1 b2]
  unfold smpV valQ resQ
  rw [e]
  cases quantile (ofP bQuantile l).bks p with
  | none => rfl
  | some n =>
    rcases hk with rfl | rfl
    · rfl
    · rfl
theorem ceOk_q {l : List ItI} (h : NuQ l) : cesOk [⟨0, ofP bQuantile l⟩] := ⟨by simp, fun c hc => by
  obtain rfl := List.mem_singleton.1 hc
  have S := stOf_of famQ h.ok
  have B := ofP_ok bQuantile h.ok
  have hi := S.i.2 fun f => by simp
  have hl := h.len
  have := B.k
  exact ⟨B.w, B.b, fun x (hx : x ∈ (ofP bQuantile l).its) => (by rw [hi] at hx; cases hx), by show (ofP bQuantile l).its.length ≤ _; rw [hi]; simp, by show (ofP bQuantile l).bks.length ≤ _; omega⟩⟩
theorem r3 (kind : Int) (l : List ItI) (p : Int) (hl : l.length ≤ maxLen) (ol : ∀ x ∈ l, itOk x) (hp : iOk p) :
    PureOk PA GA XU RQ (itbl []) (b3 kind l p) [] 3 [.int .i64 kind, .sl 6 (itsL l) .no, .int .i64 p] (.bool true, []) := by
  constructor
  rw [x3]
  unfold RQ
  have yes : RetIs (AV.bool true) [] (AV.bool true, []) := retIs_iff.2 rfl
  refine ⟨callIs_iff.2 rfl, fun _ => ⟨_, callIs_iff.2 (sq8 hl), fun c1 => ⟨fun _ => yes, fun c2 => ?_⟩, fun _ => yes⟩, fun h => (nomatch h)⟩
  obtain ⟨hN, hk, _⟩ := nuQ_of c1 ol
  have h0 : l ≠ [] := fun e => by subst e; exact absurd c2 (by decide)
  have hl40 := hN.len
  have c9 := sq9 (op := bQuantile) (param := p) (kind := kind) (t := 0) (o := .full) (ceOk_q hN) hp
  rw [res_q hN hk h0] at c9
  have none_ : p < 1 ∨ 1000 < p → valQ kind l p = ⟨0, 0, [], false⟩ := fun h => by
    unfold valQ resQ quantile
    rw [if_pos (by omega)]
  refine ⟨⟨_, _, _, _, _, callIs_iff.2 (sq10 (by omega) ol), _, _, _, callIs_iff.2 c9, (), ⟨rfl⟩, ⟨rfl⟩, trivial, trivial⟩, fun _ _ _ => ⟨fun d => ?_, fun d => ⟨fun e => ?_, fun e => ⟨⟨by decide, (), ⟨?_⟩, ⟨rfl⟩, trivial, trivial⟩, fun _ _ _ => ⟨_, callIs_iff.2 (sq11 (by omega)), ?_⟩⟩⟩⟩⟩
  · rw [none_ (.inl (of_decide_eq_true d))]
    exact ⟨fun _ => yes, fun c => by simp at c⟩
  · rw [none_ (.inr (of_decide_eq_true e))]
    exact ⟨fun _ => yes, fun c => by simp at c⟩
  · have d := of_decide_eq_false d
    have e := of_decide_eq_false e
    have hpN : 0 ≤ p * l.length ∧ p * l.length ≤ 1000 * l.length := ⟨Int.mul_nonneg (by omega) (by omega), Int.mul_le_mul_of_nonneg_right (by omega) (by omega)⟩
    rw [len_its, iwN (x := p * l.length) ⟨by omega, by omega⟩, iwN (x := p * l.length + 999) ⟨by omega, by omega⟩, tdivN (by omega), iwN ⟨by omega, by omega⟩]
    have : max ((p * l.length + 999) / 1000) 1 = placeQ l p := by unfold placeQ; split <;> omega
    rw [this]
  · have d := of_decide_eq_false d
    have e := of_decide_eq_false e
    obtain ⟨q1, q2, q3⟩ := quant_law hN h0 (p := p) (by omega) (by omega)
    have hv : valQ kind l p = ⟨kind, low (idx (rankP l (placeQ l p))), [], true⟩ := by unfold valQ resQ; rw [q1]
    rw [hv]
    obtain ⟨z1, z2, z3⟩ := low_idx ⟨q2, q3⟩
    generalize rankP l (placeQ l p) = n at *
    generalize low (idx n) = v at *
    dsimp only
    have hvb : -1152921504606846976 ≤ v ∧ v ≤ 1152921504606846976 := by
      by_cases a : n = 0
      · have := z1 a; omega
      · by_cases b : n < 0
        · have := z2 b; omega
        · have := z3 (by omega); omega
    have w1 : IntKind.i64.wrap (0 - n) = -n := by rw [iwN ⟨by omega, by omega⟩]; omega
    have w2 : IntKind.i64.wrap (0 - v) = -v := by rw [iwN ⟨by omega, by omega⟩]; omega
    rw [w1, w2]
    have w3 : IntKind.i64.wrap (max n (-n) - max v (-v)) = max n (-n) - max v (-v) := iwN ⟨by omega, by omega⟩
    have w4 : IntKind.i64.wrap (max n (-n) - 1) = max n (-n) - 1 := iwN ⟨by omega, by omega⟩
    rw [w3, w4]
    refine ⟨fun c => by simp at c, fun _ => ⟨fun c => ?_, fun c => ?_⟩⟩
    · have c : n = 0 := by simpa using c
      rw [z1 c]
      exact ⟨fun _ => yes, fun c => by simp at c⟩
    · have c : n ≠ 0 := by simpa using c
      have w5 : IntKind.i64.wrap ((max n (-n) - 1).tdiv 32) = (max n (-n) - 1) / 32 := by rw [tdivN (by omega)]; exact iwN ⟨by omega, by omega⟩
      rw [w5]
      have fine : (n < 0 ↔ v < 0) ∧ 0 ≤ max n (-n) - max v (-v) ∧ max n (-n) - max v (-v) ≤ (max n (-n) - 1) / 32 := by
        by_cases b : n < 0
        · have := z2 b; omega
        · have := z3 (by omega); omega
      clear z1 z2 z3
      generalize max n (-n) - max v (-v) = A at *
      generalize (max n (-n) - 1) / 32 = B at *
      repeat' first
        | apply And.intro
        | intro _
      all_goals first
        | exact yes
        | (exfalso; simp only [decide_eq_true_eq, decide_eq_false_iff_not] at *; omega)
        | omega
        | simp_all
theorem k3 : SpecOk PA GA 3 u3 := spec_wkS fun args r h => by
  unfold u3 at h
  split at h
  case h_2 => cases h
  split at h
  case h_2 => cases h
  rename_i l hl
  split at h
  case isFalse => cases h
  rename_i hc
  injection h with h; subst h
  obtain rfl := unL_inv unI_inv hl
  rw [List.map_cons, List.map_cons, List.map_cons, List.map_nil, wk_its hc.1]
  have hR : CalleeOk PA GA RQ := tbl_cons o7 (tbl_cons j8 (tbl_cons o12 (tbl_cons o18 (tbl_cons j11 tbl_nil))))
  exact one_pure mixedA hR itbl_nil (r3 _ l _ hc.2.1 hc.2.2.1 hc.2.2.2.2)
end Go.Abs

namespace Go.Abs
open Go.Proofs Go.Proofs.K17 Go.Proofs.D17 Go.RowKit
theorem tie {i j : Nat} (h : some (AV.int .i64 (i : Int)) = some (AV.int .i64 (j : Int))) : i = j := by
  injection h with h; injection h with _ h; omega
theorem sumF_succ {l : List ItI} {i : Nat} {x : ItI} (h : l[i]? = some x) : sumF (l.take (i + 1)) = addF (sumF (l.take i)) x := by
  obtain ⟨hi, rfl⟩ := List.getElem?_eq_some_iff.1 h
  unfold sumF
  rw [List.take_succ_eq_append_getElem hi, List.foldl_append]; rfl
theorem low_succ {b : Bst} {l : List ItI} {i : Nat} {x : ItI} (h : l[i]? = some x) : lowP b (l.take (i + 1)) = lowP b (l.take i) + (if itV x = bV b then 1 else 0) := by
  obtain ⟨hi, rfl⟩ := List.getElem?_eq_some_iff.1 h
  unfold lowP
  rw [List.take_succ_eq_append_getElem hi, List.filter_append, List.length_append]
  congr 1
  by_cases hh : itV l[i] = bV b <;> simp [hh]
theorem low_not {b : Bst} {l : List ItI} {i : Nat} {x : ItI} (h : l[i]? = some x) (e : itV x ≠ bV b) : lowP b (l.take (i + 1)) = lowP b (l.take i) := by
  rw [low_succ h, if_neg e]; rfl
theorem many_succ {l : List ItI} {i : Nat} {x : ItI} (h : l[i]? = some x) : manyP l (i + 1) = manyP l i + (if metP (l.take i) x then 0 else 1) := by
  show manyP l i + _ = _
  rw [h]
theorem met_succ {l : List ItI} {k : Nat} (h : k < l.length) (x : ItI) : metP (l.take (k + 1)) x = (metP (l.take k) x || decide (itV l[k] = itV x)) := by
  unfold metP
  rw [List.take_succ_eq_append_getElem h, List.any_append]; simp
theorem low_le (b : Bst) (l : List ItI) : lowP b l ≤ l.length := List.length_filter_le ..
theorem many_le (l : List ItI) : ∀ i, manyP l i ≤ i
  | 0 => Nat.le_refl _
  | i + 1 => by
    have := many_le l i
    show manyP l i + _ ≤ _
    split
    · split <;> omega
    · omega
theorem eqV (k n : Int) (s : List UInt8) (x : VI) : ((k == x.k && (n == x.n && (s == x.s && true)))) = decide ((⟨k, n, s⟩ : VI) = x) := by
  obtain ⟨k', n', s'⟩ := x
  by_cases h : (⟨k, n, s⟩ : VI) = ⟨k', n', s'⟩
  · rw [decide_eq_true h]
    injection h with h1 h2 h3
    subst h1; subst h2; subst h3; simp
  · rw [decide_eq_false h]
    simp only [VI.mk.injEq, not_and] at h
    by_cases h1 : k = k'
    · by_cases h2 : n = n'
      · have := h h1 h2; simp [h1, h2, this]
      · simp [h2]
    · simp [h1]
abbrev tM : List (FuncId × Spec) := [(7, s7), (8, v8), (33, v33), (34, v34), (35, s105), (36, v36), (37, v37), (38, v38), (13, v13)]
theorem sm8 {kind : Int} {l : List ItI} (h : l.length ≤ maxLen) : tbl tM 8 [.int .i64 kind, .sl 6 (itsL l) .no] = some (.bool (nuP kind l), []) := by
  rw [tb_miss (by decide), tb_hit]; simp only [v8, show unL unI (itsL l) = some l from unL_map unI_ok l]
  rw [if_pos ⟨.inl trivial, h⟩]
theorem sm33 {op : List UInt8} {kind : Int} {l : List ItI} (h : l.length ≤ 100) (ok : ∀ x ∈ l, okI x) : tbl tM 33 [.str op, .int .i64 kind, .sl 6 (itsL l) .no] = some (resP op 0 kind [⟨0, ofP op l⟩] 0, []) := by
  rw [tb_miss (by decide), tb_miss (by decide), tb_hit]; simp only [v33, show unL unI (itsL l) = some l from unL_map unI_ok l]
  rw [if_pos ⟨.inl trivial, h, ok⟩]
theorem sm38 {x y : Int} (h : iOk x ∧ iOk y ∧ (x * 1000000).natAbs / y.natAbs < 9223372036854775808) : tbl tM 38 [.int .i64 x, .int .i64 y] = some (tupP (divD x y), []) := by
  rw [tb_miss (by decide), tb_miss (by decide), tb_miss (by decide), tb_miss (by decide), tb_miss (by decide), tb_miss (by decide), tb_miss (by decide), tb_hit]
  simp only [v38]
  rw [if_pos h]
theorem dvd_in (kind : Int) (l : List ItI) : inR (dvd kind (sumF l)).1 = true := by
  unfold dvd
  split
  · unfold fromD
    split
    · exact inR_iff.2 ⟨by show -1152921504606846976 ≤ (sumF l).1 * 1000000; omega, by show (sumF l).1 * 1000000 ≤ _; omega⟩
    · decide
  · exact sumF_in l
theorem neg_true {b : Bool} (h : (!b) = true) : b = false := by cases b <;> simp_all
set_option maxHeartbeats 2000000 in
theorem r6 (kind : Int) (l : List ItI) (hl : l.length ≤ maxLen) (ol : ∀ x ∈ l, itOk x) (hk : iOk kind) :
    PureOk PA GA XM RM (itbl []) (b6 kind l) [] 6 [.int .i64 kind, .sl 6 (itsL l) .no] (.bool true, []) := by
  constructor
  rw [x6]
  unfold RM
  have yes : RetIs (AV.bool true) [] (AV.bool true, []) := retIs_iff.2 rfl
  refine ⟨callIs_iff.2 rfl, fun _ => ⟨_, callIs_iff.2 (sm8 hl), fun c1 => ?_, fun _ => yes⟩, fun h => (nomatch h)⟩
  obtain ⟨hN, hkk, hv⟩ := nuQ_of c1 ol
  have h40 := hN.len
  have okl : ∀ x ∈ l, okI x := fun x hx => ⟨ol x hx, by rw [(hv x hx).1]; exact hk, by rw [(hv x hx).2]; simp⟩
  have c33 : ∀ op, tbl tM 33 [.str op, .int .i64 kind, .sl 6 (itsL l) .no] = some (resP op 0 kind [⟨0, ofP op l⟩] 0, []) := fun op => sm33 (by omega) okl
  have cmin := c33 bMin
  rw [res_best (.inl rfl) hN] at cmin
  have cmax := c33 bMax
  rw [res_best (.inr rfl) hN] at cmax
  have best : ∀ {i : Nat} {x : ItI}, l[i]? = some x → 0 ≤ cmpV x.k x.n x.s (minB l).k (minB l).n (minB l).s ∧ cmpV x.k x.n x.s (maxB l).k (maxB l).n (maxB l).s ≤ 0 := fun {i x} h => by
    have hx := List.mem_of_getElem? h
    have h0 : l ≠ [] := List.ne_nil_of_mem hx
    rw [cmpV_vK, cmpV_vK]
    exact ⟨((best_list (.inl rfl) hN h0).all x hx).1 rfl, ((best_list (.inr rfl) hN h0).all x hx).2 rfl⟩
  have lowB : ∀ (b : Bst) (i : Nat), lowP b (l.take i) ≤ 40 := fun b i => by
    have := low_le b (l.take i)
    rw [List.length_take] at this; omega
  refine ⟨_, _, _, callIs_iff.2 cmin, _, _, _, callIs_iff.2 cmax, ⟨⟨0, ⟨by rw [List.take_zero]; rfl⟩, ⟨rfl⟩, Nat.zero_le _, trivial⟩, fun i hi => ⟨fun lt => ?_, fun ge => ?_⟩⟩, fun _ _ _ => ?_⟩
  · have lt := of_decide_eq_true lt
    rw [len_its] at lt
    have hil : i < l.length := by omega
    refine ⟨⟨by omega, by rw [len_its]; omega⟩, _, _, _, by rw [Int.toNat_natCast]; exact take_iv hil, ⟨_, _, callIs_iff.2 rfl, fun c => ⟨⟨i, l[i], 0⟩, ⟨by rw [← c]⟩, ⟨rfl⟩, List.getElem?_eq_getElem hil, rfl⟩, fun c => ⟨⟨i, l[i], 0⟩, ⟨by rw [← c]⟩, ⟨rfl⟩, List.getElem?_eq_getElem hil, rfl⟩⟩, fun p1 h1 t1 => ?_⟩
    obtain ⟨iA, xA, kA⟩ := p1
    dsimp only at h1 t1 ⊢
    have t1 := tie t1
    subst t1
    have e1 := sumF_succ h1
    have inner : ∀ (fine : Bool), (sumF (l.take i)).2 = fine → (sumF (l.take (i + 1))).1 = (addD (sumF (l.take i)).1 xA.n).1 ∧ (sumF (l.take (i + 1))).2 = (fine && (addD (sumF (l.take i)).1 xA.n).2) := fun fine hf => by
      rw [e1, ← hf]; exact ⟨rfl, rfl⟩
    refine ⟨fun f1 => ⟨⟨⟨i, xA, 0⟩, ⟨?_⟩, ⟨rfl⟩, ⟨h1, Nat.zero_le _⟩, rfl⟩, fun p2 h2 t2 => ?_⟩, fun f1 => ⟨⟨⟨i, xA, 0⟩, ⟨?_⟩, ⟨rfl⟩, ⟨h1, Nat.zero_le _⟩, rfl⟩, fun p2 h2 t2 => ?_⟩⟩
    case refine_1 =>
      obtain ⟨a, b⟩ := inner _ f1
      dsimp only
      rw [a, b]; rfl
    case refine_3 =>
      obtain ⟨a, b⟩ := inner _ f1
      dsimp only
      rw [a, b]; rfl
    all_goals
      clear inner e1 f1
      obtain ⟨iB, xB, kB⟩ := p2
      dsimp only at h2 t2 ⊢
      have t2 := tie t2
      subst t2
      obtain ⟨h2, hk2⟩ := h2
      refine ⟨fun m1 => ⟨fun lk => ⟨⟨i, xB, kB + 1⟩, ⟨?_⟩, ⟨rfl⟩, ⟨h2, ?_⟩, rfl, ?_⟩, fun gk => ⟨⟨⟨i, xB, 0⟩, ⟨?_⟩, ⟨rfl⟩, h2, rfl⟩, ?_⟩⟩, fun m1 => ⟨fun lk => ?_, fun gk => ⟨⟨⟨i, xB, 0⟩, ⟨?_⟩, ⟨rfl⟩, h2, rfl⟩, ?_⟩⟩⟩
      · have lk := of_decide_eq_true lk
        dsimp only
        rw [met_succ (by omega), m1, wrapB (by omega)]; rfl
      · have lk := of_decide_eq_true lk
        show kB + 1 ≤ i
        omega
      · have lk := of_decide_eq_true lk
        show i - (kB + 1) < i - kB
        omega
      · have gk := of_decide_eq_false gk
        obtain rfl : kB = i := by omega
        dsimp only
        rw [many_succ h2, m1]; rfl
      rotate_left
      · have lk := of_decide_eq_true lk
        have hk3 : kB < l.length := by omega
        refine ⟨⟨by omega, by rw [len_its]; omega⟩, _, _, _, by rw [Int.toNat_natCast]; exact take_iv hk3, fun e => ⟨⟨i, xB, kB + 1⟩, ⟨?_⟩, ⟨rfl⟩, ⟨h2, by show kB + 1 ≤ i; omega⟩, rfl, by show i - (kB + 1) < i - kB; omega⟩, fun e => ⟨⟨i, xB, kB + 1⟩, ⟨?_⟩, ⟨rfl⟩, ⟨h2, by show kB + 1 ≤ i; omega⟩, rfl, by show i - (kB + 1) < i - kB; omega⟩⟩
        · have e := (eqV l[kB].k l[kB].n l[kB].s (itV xB)).symm.trans e
          have e : decide (itV l[kB] = itV xB) = true := e
          dsimp only
          rw [met_succ hk3, m1, e, wrapB (by omega)]; rfl
        · have e := (eqV l[kB].k l[kB].n l[kB].s (itV xB)).symm.trans e
          have e : decide (itV l[kB] = itV xB) = false := e
          dsimp only
          rw [met_succ hk3, m1, e, wrapB (by omega)]; rfl
      · have gk := of_decide_eq_false gk
        obtain rfl : kB = i := by omega
        have := many_le l kB
        dsimp only
        rw [many_succ h2, m1, wrapB (by omega)]; rfl
      all_goals
        intro p3 h3 t3
        obtain ⟨iC, xC, kC⟩ := p3
        dsimp only at h3 t3 ⊢
        have t3 := tie t3
        subst t3
        obtain ⟨b1, b2⟩ := best h3
        refine ⟨_, callIs_iff.2 rfl, fun c => absurd (of_decide_eq_true c) (by omega), fun _ => ⟨_, callIs_iff.2 rfl, fun c => absurd (of_decide_eq_true c) (by omega), fun _ => ⟨⟨fun e => ⟨⟨i, xC, 0⟩, ⟨?_⟩, ⟨rfl⟩, h3, rfl⟩, fun e => ⟨⟨i, xC, 0⟩, ⟨?_⟩, ⟨rfl⟩, h3, rfl⟩⟩, fun p4 h4 t4 => ?_⟩⟩⟩
        · have e : decide (itV xC = bV (minB l)) = true := (eqV xC.k xC.n xC.s (bV (minB l))).symm.trans e
          have := lowB (minB l) i
          dsimp only
          rw [low_succ h3, if_pos (of_decide_eq_true e), wrapB (by omega)]
        · have e : decide (itV xC = bV (minB l)) = false := (eqV xC.k xC.n xC.s (bV (minB l))).symm.trans e
          dsimp only
          rw [low_not h3 (of_decide_eq_false e)]
        · obtain ⟨iD, xD, kD⟩ := p4
          dsimp only at h4 t4 ⊢
          have t4 := tie t4
          subst t4
          refine ⟨fun e => ⟨i + 1, ⟨?_⟩, ⟨rfl⟩, by omega, by omega⟩, fun e => ⟨i + 1, ⟨?_⟩, ⟨rfl⟩, by omega, by omega⟩⟩
          · have e : decide (itV xD = bV (maxB l)) = true := (eqV xD.k xD.n xD.s (bV (maxB l))).symm.trans e
            have := lowB (maxB l) i
            rw [low_succ (b := maxB l) h4, if_pos (of_decide_eq_true e), wrapB (by omega), wrapB (by omega)]
          · have e : decide (itV xD = bV (maxB l)) = false := (eqV xD.k xD.n xD.s (bV (maxB l))).symm.trans e
            rw [low_not (b := maxB l) h4 (of_decide_eq_false e), wrapB (by omega)]
  · have ge := of_decide_eq_false ge
    rw [len_its] at ge
    obtain rfl : i = l.length := by omega
    exact ⟨(), ⟨by rw [List.take_length]⟩, ⟨rfl⟩, trivial, trivial⟩
  · have ccnt := c33 bCount
    rw [res_count hN] at ccnt
    have cdis := c33 bDistinct
    rw [res_dist hN] at cdis
    have same : ∀ (k n : Int) (s : List UInt8), (k == k && (n == n && (s == s && true))) = true := fun k n s => by simp
    have wl : IntKind.i64.wrap ((l.length : Int) * 1000000) = (l.length : Int) * 1000000 := iwN ⟨by omega, by omega⟩
    have c38 : l ≠ [] → tbl tM 38 [.int .i64 (dvd kind (sumF l)).1, .int .i64 ((l.length : Int) * 1000000)] = some (tupP (divD (dvd kind (sumF l)).1 ((l.length : Int) * 1000000)), []) := fun h0 => by
      have hi := inR_iff.1 (dvd_in kind l)
      have hn : 1 ≤ l.length := List.length_pos_iff.2 h0
      refine sm38 ⟨⟨by omega, by omega⟩, ⟨by omega, by omega⟩, ?_⟩
      generalize (dvd kind (sumF l)).1 = d at *
      have : (d * 1000000).natAbs / ((l.length : Int) * 1000000).natAbs ≤ (d * 1000000).natAbs / 1000000 := Nat.div_le_div_left (by omega) (by omega)
      omega
    rw [wl, len_its]
    have close : ∀ {b : Bool} {P : Prop}, b = true → b = false → P := fun h1 h2 => by rw [h1] at h2; cases h2
    have empty : l = [] → (minB l).k = 0 ∧ (minB l).n = 0 ∧ (minB l).s = [] ∧ (maxB l).k = 0 ∧ (maxB l).n = 0 ∧ (maxB l).s = [] ∧ resP bSum 0 kind [⟨0, ofP bSum l⟩] 0 = valA 0 0 [] ∧ resP bMean 0 kind [⟨0, ofP bMean l⟩] 0 = valA 0 0 [] := fun h => by
      subst h
      exact ⟨by kernel_rfl, by kernel_rfl, by kernel_rfl, by kernel_rfl, by kernel_rfl, by kernel_rfl, res_none (.inl rfl) kind, res_none (.inr rfl) kind⟩
    have mean : l ≠ [] → (dvd kind (sumF l)).2 = true → (divD (dvd kind (sumF l)).1 ((l.length : Int) * 1000000)).2 = true → tbl tM 33 [.str bMean, .int .i64 kind, .sl 6 (itsL l) .no] = some (valA 3 (divD (dvd kind (sumF l)).1 ((l.length : Int) * 1000000)).1 [], []) := fun h0 h1 h2 => by
      rw [c33 bMean, res_mean hkk hN h0 h1 h2]
    have lowM : l ≠ [] → ((lowP (minB l) l : Int) == 0) = false ∧ ((lowP (maxB l) l : Int) == 0) = false := fun h0 => by
      have a := low_pos (best_list (.inl rfl) hN h0)
      have b := low_pos (best_list (.inr rfl) hN h0)
      have a : 1 ≤ lowP (minB l) l := a
      have b : 1 ≤ lowP (maxB l) l := b
      exact ⟨beq_false_of_ne (by omega), beq_false_of_ne (by omega)⟩
    have ends : l ≠ [] → (((dvd kind (sumF l)).2 = true → ∃ (n : Int), ∃ (b : Bool), CallIs (tbl tM 38 [AV.int .i64 (dvd kind (sumF l)).1, AV.int .i64 ((l.length : Int) * 1000000)]) (AV.tup [AV.int .i64 n, AV.bool b]) [] ∧ (b = true → ∃ (a : Int), ∃ (c : Int), ∃ (s : List UInt8), CallIs (tbl tM 33 [AV.str bMean, AV.int .i64 kind, AV.sl 6 (itsL l) .no]) (AV.agg [AV.int .i64 a, AV.int .i64 c, AV.str s]) [] ∧ ∃ (d : Int), ∃ (e : Int), ∃ (z : List UInt8), CallIs (some (AV.agg [AV.int .i64 3, AV.int .i64 n, AV.str []], [])) (AV.agg [AV.int .i64 d, AV.int .i64 e, AV.str z]) [] ∧ ((a == d && (c == e && (s == z && true))) = true → RetIs (AV.bool true) [] (AV.bool true, [])) ∧ ((a == d && (c == e && (s == z && true))) = false → RetIs (AV.bool false) [] (AV.bool true, []))) ∧ (b = false → RetIs (AV.bool true) [] (AV.bool true, []))) ∧ ((dvd kind (sumF l)).2 = false → ∃ (n : Int), ∃ (b : Bool), CallIs (tbl tM 38 [AV.int .i64 (dvd kind (sumF l)).1, AV.int .i64 ((l.length : Int) * 1000000)]) (AV.tup [AV.int .i64 n, AV.bool b]) [] ∧ (b = true → RetIs (AV.bool true) [] (AV.bool true, [])) ∧ (b = false → RetIs (AV.bool true) [] (AV.bool true, [])))) := fun h0 =>
      ⟨fun d1 => ⟨_, _, callIs_iff.2 (c38 h0), fun d2 => ⟨_, _, _, callIs_iff.2 (mean h0 d1 d2), _, _, _, callIs_iff.2 rfl, fun _ => yes, fun e => close (same _ _ _) e⟩, fun _ => yes⟩, fun _ => ⟨_, _, callIs_iff.2 (c38 h0), fun _ => yes, fun _ => yes⟩⟩
    have isE : ((l.length : Int) == 0) = true → l = [] := fun h => List.length_eq_zero_iff.1 (by have := eq_of_beq h; omega)
    have isN : ((l.length : Int) == 0) = false → l ≠ [] := fun h e => by subst e; cases h
    refine ⟨fun f1 => ⟨_, _, _, callIs_iff.2 ccnt, _, _, _, callIs_iff.2 rfl, fun e => close (same _ _ _) (neg_true e), fun _ => ⟨_, _, _, callIs_iff.2 cdis, _, _, _, callIs_iff.2 rfl, fun e => close (same _ _ _) (neg_true e), fun _ => ⟨fun z => ?_, fun z => ?_⟩⟩⟩,
      fun f1 => ⟨_, _, _, callIs_iff.2 ccnt, _, _, _, callIs_iff.2 rfl, fun e => close (same _ _ _) (neg_true e), fun _ => ⟨_, _, _, callIs_iff.2 cdis, _, _, _, callIs_iff.2 rfl, fun e => close (same _ _ _) (neg_true e), fun _ => ⟨fun z => ?_, fun z => ?_⟩⟩⟩⟩
    case refine_1 =>
      obtain ⟨a1, a2, a3, a4, a5, a6, a7, a8⟩ := empty (isE z)
      rw [a1, a2, a3, a4, a5, a6]
      have cs := c33 bSum
      rw [a7] at cs
      have cm := c33 bMean
      rw [a8] at cm
      exact ⟨fun _ => ⟨fun _ => ⟨_, _, _, callIs_iff.2 cs, fun _ => ⟨_, _, _, callIs_iff.2 cm, fun _ => yes, fun h => close (same _ _ _) h⟩, fun h => close (same _ _ _) h⟩, fun h => close (same _ _ _) h⟩, fun h => close (same _ _ _) h⟩
    case refine_3 =>
      obtain ⟨a1, a2, a3, a4, a5, a6, a7, a8⟩ := empty (isE z)
      rw [a1, a2, a3, a4, a5, a6]
      have cs := c33 bSum
      rw [a7] at cs
      have cm := c33 bMean
      rw [a8] at cm
      exact ⟨fun _ => ⟨fun _ => ⟨_, _, _, callIs_iff.2 cs, fun _ => ⟨_, _, _, callIs_iff.2 cm, fun _ => yes, fun h => close (same _ _ _) h⟩, fun h => close (same _ _ _) h⟩, fun h => close (same _ _ _) h⟩, fun h => close (same _ _ _) h⟩
    case refine_2 =>
      have h0 := isN z
      obtain ⟨l1, l2⟩ := lowM h0
      have cs := c33 bSum
      rw [res_sum hkk hN h0 f1] at cs
      refine ⟨fun h => close h l1, fun _ => ⟨fun h => close h l2, fun _ => ⟨_, _, _, callIs_iff.2 cs, fun h => close (same _ _ _) (neg_true h), fun _ => ⟨⟨fun kB => ⟨_, _, callIs_iff.2 rfl, fun b1 => ⟨(), ⟨?_⟩, ⟨rfl⟩, trivial, trivial⟩, fun b1 => ⟨(), ⟨?_⟩, ⟨rfl⟩, trivial, trivial⟩⟩, fun kC => ⟨(), ⟨?_⟩, ⟨rfl⟩, trivial, trivial⟩⟩, fun _ _ _ => ends h0⟩⟩⟩⟩
      · have e : dvd kind (sumF l) = fromD (sumF l).1 := by unfold dvd; rw [if_pos ⟨eq_of_beq kB, f1⟩]
        rw [e, b1]
      · have e : dvd kind (sumF l) = fromD (sumF l).1 := by unfold dvd; rw [if_pos ⟨eq_of_beq kB, f1⟩]
        rw [e, b1]
      · have e : dvd kind (sumF l) = sumF l := by unfold dvd; rw [if_neg (fun hh => ne_of_beq_false kC hh.1)]
        rw [e, f1]
    case refine_4 =>
      have h0 := isN z
      obtain ⟨l1, l2⟩ := lowM h0
      have e : dvd kind (sumF l) = sumF l := by unfold dvd; rw [if_neg (fun hh => by rw [f1] at hh; cases hh.2)]
      exact ⟨fun h => close h l1, fun _ => ⟨fun h => close h l2, fun _ => ⟨⟨fun kB => ⟨(), ⟨by rw [e, f1]⟩, ⟨rfl⟩, trivial, trivial⟩, fun kC => ⟨(), ⟨by rw [e, f1]⟩, ⟨rfl⟩, trivial, trivial⟩⟩, fun _ _ _ => ends h0⟩⟩⟩
theorem run13m (n : Int) : (evs PA GA (tbl []) (fun _ => []) 5).1 13 [.int .i64 n] = some (valA 3 n [], []) := by kernel_rfl
theorem j13m : SpecOk PA GA 13 v13 := spec_run mixedA tbl_nil fun args r h => by
  unfold v13 at h
  split at h
  case h_2 => cases h
  injection h with h; subst h
  exact ⟨5, run13m _⟩
theorem k6 : SpecOk PA GA 6 u6 := spec_wkS fun args r h => by
  unfold u6 at h
  split at h
  case h_2 => cases h
  split at h
  case h_2 => cases h
  rename_i l hl
  split at h
  case isFalse => cases h
  rename_i hc
  injection h with h; subst h
  obtain rfl := unL_inv unI_inv hl
  rw [List.map_cons, List.map_cons, List.map_nil, wk_its hc.1]
  have hR : CalleeOk PA GA RM := tbl_cons o7 (tbl_cons j8 (tbl_cons j33 (tbl_cons j34 (tbl_cons o105 (tbl_cons j36 (tbl_cons j37 (tbl_cons j38 (tbl_cons j13m tbl_nil))))))))
  exact one_pure mixedA hR itbl_nil (r6 _ l hc.2.1 hc.2.2.1 hc.2.2.2)
theorem u6_true (kind : Int) (l : List ItI) (nk : iOk kind) (nl : l.length ≤ maxLen ∧ ∀ x ∈ l, itOk x) : u6 [.int .i64 kind, .sl 6 (itsL l) .no] = some (.bool true, []) := by
  simp only [u6, show unL unI (itsL l) = some l from unL_map unI_ok l]
  rw [if_pos ⟨.inl trivial, nl.1, nl.2, nk⟩]
end Go.Abs

namespace Go.Abs
open Go.ChangeShapes Go.WideShapes Go.ChangeAt Go.RowKit Go.Deep Go.ChangeMaps
open Go.Proofs Go.Proofs.YtdajfgkcpflacaaGreat
section
variable {H : Type} {enc : TypeId × Value → H} {P : Program} {W : World}
def ElemR (P : Program) (W : World) (enc : TypeId × Value → H) (e : TypeId) {α : Type} (g : α → AV) (Q : α → DataW H → Prop) : Prop :=
  ∀ n cs x, DataW.trod enc P W 0 (fun _ => true) true n e cs = some x → ∃ a : α, Q a x.1 ∧ ∀ (j : Nat) (c : AV) (u : Value), (g a).cells[j]? = some c → cs[j]? = some u → Rep (oldE W) W c u ∧ u.oneCell' = true
theorem open_slR {t e : TypeId} {sz : Nat} {α : Type} [Inhabited α] {g : α → AV} {Q : α → DataW H → Prop} (ht : P.underlying t = some (.slice e)) (hc : P.cellsOf e = sz) (hsz : 0 < sz) (hg : ∀ a, (g a).cells.length = sz ∧ (g a).closed1 = true) (hel : ElemR P W enc e g Q)
    {v : Value} {d : DataW H} {ps : List MemPlace} (hv : ∃ A len cap, v = .slice A len cap) (h : DataW.Trod enc P W 0 (fun _ => true) true t v d ps) :
    ∃ l : List α, Rep (oldE W) W (.sl sz (l.map g) .no) v ∧ (l = [] ∨ ∃ elems spare, d = .slice elems spare ∧ elems.length = l.length ∧ ∀ (i : Nat) a x, l[i]? = some a → elems[i]? = some x → Q a x) := by
  obtain ⟨a, len, cap, rfl⟩ := hv
  obtain ⟨fuel, h⟩ := h
  rcases open_slice ht h with ⟨hcs, _⟩ | ⟨a', len', cap', m, n, D, Pl, hcs, hb, hl, hmx, hm, hx, hels⟩
  · simp [Value.cells] at hcs
    obtain ⟨rfl, rfl, rfl⟩ := hcs
    exact ⟨[], .sl sz [] .no none 0 (fun _ _ => .bool false) (by simp) (by simp [maxLen]) (.inl rfl) (by simp) (by simp) trivial (by simp) (fun _ _ => rfl), .inl rfl⟩
  · simp [Value.cells] at hcs
    obtain ⟨rfl, rfl, rfl⟩ := hcs
    have hm' : m = cap := by simpa using hm
    have hch : ∀ i, i < len → ∃ x : α × List Value, x.2.length = sz ∧ (∀ j, j < sz → W.cell? (a'.add (i * sz + j)) = x.2[j]?) ∧ Q x.1 (D i) ∧ ∀ (j : Nat) (c : AV) (u : Value), (g x.1).cells[j]? = some c → x.2[j]? = some u → Rep (oldE W) W c u ∧ u.oneCell' = true := fun i hi => by
      obtain ⟨cs, hcs, ht'⟩ := hels i (by omega)
      rw [hc] at hcs
      obtain ⟨_, hlen, hat⟩ := World.cells?_some hcs
      obtain ⟨x, hq, hx⟩ := hel n cs _ ht'
      refine ⟨(x, cs), hlen, fun j hj => ?_, hq, hx⟩
      have := hat j hj
      rw [Go.Deep.add_add] at this
      exact this
    obtain ⟨f, hf⟩ := choose_lt hch
    refine ⟨(List.range len).map fun i => (f i).1, ?_, .inr ?_⟩
    · have hlen : ((List.range len).map fun i => (f i).1).length = len := by simp
      have hln : (((List.range len).map fun i => (f i).1).map g).length = len := by simp
      have hget : ∀ (i : Nat) (e' : AV), (((List.range len).map fun i => (f i).1).map g)[i]? = some e' → i < len ∧ e' = g (f i).1 := fun i e' h => by
        have hi : i < len := by
          have := (List.getElem?_eq_some_iff.1 h).1
          simpa using this
        refine ⟨hi, ?_⟩
        simp [List.getElem?_range hi] at h
        exact h.symm
      let u : Nat → Nat → Value := fun i j => if i < len ∧ j < sz then ((f i).2[j]?).getD (.bool false) else .bool false
      have hu : ∀ i j, i < len → j < sz → (f i).2[j]? = some (u i j) := fun i j hi hj => by
        have h2 : j < (f i).2.length := by rw [(hf i hi).1]; exact hj
        simp only [u, hi, hj, and_self, if_true, List.getElem?_eq_getElem h2, Option.getD_some]
      have key := Rep.sl (E := oldE W) (w := W) sz (((List.range len).map fun i => (f i).1).map g) .no (some a') cap u (by rw [hln]; exact hl) hmx ?_ ?_ ?_ trivial ?_ ?_
      · rw [hln] at key; exact key
      · rcases Nat.eq_zero_or_pos len with h0 | h0
        · left; subst h0; rfl
        · right
          have h1 := (hf 0 h0).2.1 0 hsz
          rw [hu 0 0 h0 hsz] at h1
          have hadd : a'.add (0 * sz + 0) = a' := by unfold Addr.add; simp
          rw [hadd] at h1
          have hp := addr_plain h1
          refine ⟨a'.block, a'.off, by rw [← hp], fun i e' j c hi hj => ?_⟩
          obtain ⟨hlt, rfl⟩ := hget i e' hi
          have hjs : j < sz := by
            have := (List.getElem?_eq_some_iff.1 hj).1
            rw [(hg _).1] at this; exact this
          have h2 := (hf i hlt).2.1 j hjs
          rw [hu i j hlt hjs, hp, addp] at h2
          have e : a'.off + i * sz + j = a'.off + (i * sz + j) := by omega
          refine ⟨cell_lt h1, by rw [e]; exact h2⟩
      · intro e' he
        obtain ⟨x, hx, rfl⟩ := List.mem_map.1 he
        exact (hg x).1
      · intro e' he
        obtain ⟨x, hx, rfl⟩ := List.mem_map.1 he
        exact (hg x).2
      · intro i e' j c hi hj
        obtain ⟨hlt, rfl⟩ := hget i e' hi
        have hjs : j < sz := by
          have := (List.getElem?_eq_some_iff.1 hj).1
          rw [(hg _).1] at this; exact this
        exact ((hf i hlt).2.2.2 j c (u i j) hj (hu i j hlt hjs)).1
      · intro i j
        by_cases hij : i < len ∧ j < sz
        · have hjs : j < (g (f i).1).cells.length := by rw [(hg _).1]; exact hij.2
          exact ((hf i hij.1).2.2.2 j _ (u i j) (List.getElem?_eq_getElem hjs) (hu i j hij.1 hij.2)).2
        · simp only [u, if_neg hij]; rfl
    · have hx1 := congrArg Prod.fst hx
      simp only at hx1
      refine ⟨_, _, hx1, by simp, fun i a x hi hxi => ?_⟩
      have hlt : i < len := by
        have := (List.getElem?_eq_some_iff.1 hi).1
        simpa using this
      simp [List.getElem?_range hlt] at hi hxi
      subst hi; subst hxi
      exact (hf i hlt).2.2.1

/-! cells that read so -/
def CellsAre (W : World) (l : List AV) (cs : List Value) : Prop :=
  l.length = cs.length ∧ ∀ (j : Nat) (c : AV) (u : Value), l[j]? = some c → cs[j]? = some u → Rep (oldE W) W c u ∧ u.oneCell' = true
theorem CellsAre.one {c : AV} {u : Value} (h : Rep (oldE W) W c u) (h1 : u.oneCell' = true) : CellsAre W [c] [u] := ⟨rfl, fun j c' u' hc hu => by
  match j, hc, hu with
  | 0, hc, hu => simp at hc hu; subst hc; subst hu; exact ⟨h, h1⟩⟩
theorem CellsAre.append {l r : List AV} {cs ds : List Value} (h : CellsAre W l cs) (k : CellsAre W r ds) : CellsAre W (l ++ r) (cs ++ ds) := by
  refine ⟨by simp [h.1, k.1], fun j c u hc hu => ?_⟩
  rcases Nat.lt_or_ge j l.length with hj | hj
  · rw [List.getElem?_append_left hj] at hc
    rw [List.getElem?_append_left (by rw [← h.1]; exact hj)] at hu
    exact h.2 j c u hc hu
  · rw [List.getElem?_append_right hj] at hc
    rw [List.getElem?_append_right (by rw [← h.1]; exact hj), ← h.1] at hu
    exact k.2 _ c u hc hu
/-- a struct's cells, field behind field -/
theorem CellsAre.next {l r : List AV} {cs : List Value} {o s p : Nat} (h : CellsAre W l ((cs.drop o).take s)) (hp : p = o + s) (k : CellsAre W r (cs.drop p)) : CellsAre W (l ++ r) (cs.drop o) := by
  subst hp
  have := h.append k
  rwa [← List.drop_drop, List.take_append_drop] at this
theorem CellsAre.last {l : List AV} {cs : List Value} {o s : Nat} (h : CellsAre W l ((cs.drop o).take s)) (hs : cs.length = o + s) : CellsAre W l (cs.drop o) := by
  rwa [List.take_of_length_le (by rw [List.length_drop]; omega)] at h
/-- what is read of a type -/
def ReadsAs (P : Program) (W : World) (enc : TypeId × Value → H) (t : TypeId) {α : Type} (g : α → List AV) (Q : α → Nat → Prop) : Prop :=
  ∀ n cs x, DataW.trod enc P W 0 (fun _ => true) true n t cs = some x → ∃ a : α, Q a (Rows.uptoBulk x.1) ∧ CellsAre W (g a) cs
theorem reads_str {t : TypeId} (ht : P.underlying t = some .string) : ReadsAs P W enc t (fun s : List UInt8 => [.str s]) (fun s n => s.length ≤ n) := by
  intro n cs x h
  obtain ⟨s, rfl, rfl, _⟩ := DataW.trod_string ht h
  exact ⟨s.data.toList, by simp [Rows.uptoBulk], .one (mk_str s) rfl⟩
theorem reads_int {t : TypeId} (ht : P.underlying t = some (.int .i64)) : ReadsAs P W enc t (fun n : Int => [.int .i64 n]) (fun n _ => -9223372036854775808 ≤ n ∧ n ≤ 9223372036854775807) := by
  intro n cs x h
  obtain ⟨k, rfl, _, hw⟩ := DataW.trod_int ht h
  have := int_rng hw
  exact ⟨k, ⟨this.1, by omega⟩, .one (.int _ _) rfl⟩
namespace Bulks
theorem one_le (d : DataW H) : 1 ≤ Rows.uptoBulk d := by
  cases d with
  | lit l => cases l <;> simp [Rows.uptoBulk]
  | nil => simp [Rows.uptoBulk]
  | ptr d => simp [Rows.uptoBulk]
  | slice elems spare => simp [Rows.uptoBulk]
  | agg parts => simp [Rows.uptoBulk]
  | iface t d => simp [Rows.uptoBulk]
  | map entries => simp [Rows.uptoBulk]
  | held h => simp [Rows.uptoBulk]
theorem part_le {d : DataW H} {l : List (DataW H)} (h : d ∈ l) : Rows.uptoBulk d ≤ Rows.uptoBulkAll l := by
  induction l with
  | nil => cases h
  | cons x r ih =>
    simp only [Rows.uptoBulkAll]
    cases List.mem_cons.1 h with
    | inl e => subst e; omega
    | inr e => have := ih e; omega
theorem length_le (l : List (DataW H)) : l.length ≤ Rows.uptoBulkAll l := by
  induction l with
  | nil => simp [Rows.uptoBulkAll]
  | cons x r ih => have := one_le x; simp only [Rows.uptoBulkAll, List.length_cons]; omega
theorem bound {l : List (DataW H)} (hk : Rows.uptoSmall H l = true) : Rows.uptoBulkAll l ≤ 1048576 := by
  simpa [Rows.uptoSmall] using hk
theorem field_le {xs : List (DataW H × List MemPlace)} {i : Nat} {y : DataW H × List MemPlace} (h : xs[i]? = some y) : Rows.uptoBulk y.1 ≤ Rows.uptoBulk (DataW.agg (xs.map (·.1))) := by
  have := part_le (List.mem_map_of_mem (f := fun y : DataW H × List MemPlace => y.1) (List.mem_of_getElem? h))
  simp only [Rows.uptoBulk]
  omega
end Bulks
theorem reads_slice {t e : TypeId} {sz : Nat} {α : Type} [Inhabited α] {g : α → AV} {Q : α → Nat → Prop} (ht : P.underlying t = some (.slice e)) (hc : P.cellsOf e = sz) (hsz : 0 < sz) (hg : ∀ a, (g a).cells.length = sz ∧ (g a).closed1 = true) (hel : ReadsAs P W enc e (fun a => (g a).cells) Q)
    (hQ : ∀ a n m, Q a n → n ≤ m → Q a m) : ReadsAs P W enc t (fun l : List α => [.sl sz (l.map g) .no]) (fun l n => l.length ≤ n ∧ ∀ a ∈ l, Q a n) := by
  intro n cs x h
  have hs : ∃ A len cap, cs = [.slice A len cap] := by
    rcases open_slice ht h with ⟨hcs, _⟩ | ⟨a', len', cap', m, n, D, Pl, hcs, _⟩
    · exact ⟨_, _, _, hcs⟩
    · exact ⟨_, _, _, hcs⟩
  obtain ⟨A, len, cap, rfl⟩ := hs
  have hel' : ElemR P W enc e g (fun a d => Q a (Rows.uptoBulk d)) := fun n cs x h => by
    obtain ⟨a, h1, h2⟩ := hel n cs x h
    exact ⟨a, h1, h2.2⟩
  obtain ⟨l, hl, hb⟩ := open_slR ht hc hsz hg hel' ⟨A, len, cap, rfl⟩ (d := x.1) (ps := x.2) ⟨n, by simpa [Value.cells] using h⟩
  refine ⟨l, ?_, .one hl rfl⟩
  rcases hb with rfl | ⟨elems, spare, he, hlen, hq⟩
  · exact ⟨Nat.zero_le _, fun a ha => by cases ha⟩
  · rw [he]
    have hE : Rows.uptoBulk (DataW.slice elems spare) = Rows.uptoBulkAll elems + Rows.uptoBulkAll spare + 1 := by simp only [Rows.uptoBulk]
    rw [hE]
    refine ⟨by have := Bulks.length_le elems; omega, fun a ha => ?_⟩
    obtain ⟨i, hi⟩ := List.mem_iff_getElem?.1 ha
    have hlt : i < elems.length := by rw [hlen]; exact (List.getElem?_eq_some_iff.1 hi).1
    have hx := List.getElem?_eq_getElem hlt
    refine hQ a _ _ (hq i a _ hi hx) ?_
    have := Bulks.part_le (List.mem_of_getElem? hx)
    omega
/-! cells of any type -/
end
end Go.Abs

namespace Go.Abs
open Go.ChangeShapes Go.WideShapes Go.ChangeAt Go.RowKit Go.Deep Go.ChangeMaps
open Go.Proofs Go.Proofs.YtdajfgkcpflacaaGreat
section
variable {H : Type} {enc : TypeId × Value → H} {P : Program} {W : World}
theorem fieldR {t : TypeId} {α : Type} {g : α → List AV} {Q : α → Nat → Prop} (hr : ReadsAs P W enc t g Q) (hQ : ∀ a n m, Q a n → n ≤ m → Q a m) {fs : Array Field} {xs : List (DataW H × List MemPlace)} {n : Nat} {cs : List Value} {x : DataW H × List MemPlace}
    (hx : x = (.agg (xs.map (·.1)), xs.flatMap (·.2))) (hxl : xs.length = fs.size)
    (hf : ∀ (i : Nat) (f : Field), fs[i]? = some f → DataW.trod enc P W 0 (fun _ => true) true n f.type ((cs.drop f.offset).take (P.cellsOf f.type)) = xs[i]?)
    (i : Nat) {f : Field} (hi : fs[i]? = some f) (ht : f.type = t) {o s : Nat} (ho : f.offset = o) (hs : P.cellsOf t = s) : ∃ a, Q a (Rows.uptoBulk x.1) ∧ CellsAre W (g a) ((cs.drop o).take s) := by
  have h := hf i f hi
  rw [ht, ho, hs] at h
  have hil : i < xs.length := by rw [hxl]; exact (Array.getElem?_eq_some_iff.1 hi).1
  have hg := List.getElem?_eq_getElem hil
  rw [hg] at h
  obtain ⟨a, h1, h2⟩ := hr n _ _ h
  refine ⟨a, hQ a _ _ h1 ?_, h2⟩
  rw [hx]
  exact Bulks.field_le hg
theorem ReadsAs.map {t : TypeId} {α β : Type} {g : α → List AV} {g' : β → List AV} {Q : α → Nat → Prop} {Q' : β → Nat → Prop} (h : ReadsAs P W enc t g Q) (f : α → β) (hg : ∀ a, g a = g' (f a)) (hQ : ∀ a n, Q a n → Q' (f a) n) : ReadsAs P W enc t g' Q' := fun n cs x hx => by
  obtain ⟨a, h1, h2⟩ := h n cs x hx
  exact ⟨f a, hQ a _ h1, by rw [← hg]; exact h2⟩
end
section
variable {H : Type} {enc : TypeId × Value → H} {W : World}
theorem cz3 : PA.cellsOf 3 = 1 := by kernel_rfl
theorem cz9 : PA.cellsOf 9 = 1 := by kernel_rfl
theorem cz29 : PA.cellsOf 26 = 3 := by kernel_rfl
theorem cz31 : PA.cellsOf 49 = 2 := by kernel_rfl
theorem cz33 : PA.cellsOf 51 = 6 := by kernel_rfl
theorem st29 : ∃ f0 f1 f2 : Field, PA.underlying 26 = some (.struct #[f0, f1, f2]) ∧ (f0.type = 3 ∧ f0.offset = 0) ∧ (f1.type = 3 ∧ f1.offset = 1) ∧ (f2.type = 9 ∧ f2.offset = 2) := ⟨_, _, _, Tryz.underlying26, ⟨rfl, rfl⟩, ⟨rfl, rfl⟩, ⟨rfl, rfl⟩⟩
theorem st31 : ∃ f0 f1 : Field, PA.underlying 49 = some (.struct #[f0, f1]) ∧ (f0.type = 9 ∧ f0.offset = 0) ∧ (f1.type = 3 ∧ f1.offset = 1) := ⟨_, _, Tryz.underlying49, ⟨rfl, rfl⟩, ⟨rfl, rfl⟩⟩
theorem st33 : ∃ f0 f1 f2 : Field, PA.underlying 51 = some (.struct #[f0, f1, f2]) ∧ (f0.type = 26 ∧ f0.offset = 0) ∧ (f1.type = 49 ∧ f1.offset = 3) ∧ (f2.type = 3 ∧ f2.offset = 5) := ⟨_, _, _, Tryz.underlying51, ⟨rfl, rfl⟩, ⟨rfl, rfl⟩, ⟨rfl, rfl⟩⟩
def rngI (n : Int) : Prop := -9223372036854775808 ≤ n ∧ n ≤ 9223372036854775807
theorem rng_ok {n : Int} (h : rngI n) : iOk n := by unfold rngI at h; unfold iOk; omega
theorem rStr : ReadsAs PA W enc 9 (fun s : List UInt8 => [.str s]) (fun _ _ => True) := fun n cs x h => by
  obtain ⟨a, _, h2⟩ := reads_str Tryz.underlying9 n cs x h
  exact ⟨a, trivial, h2⟩
theorem rInt : ReadsAs PA W enc 3 (fun n : Int => [.int .i64 n]) (fun n _ => rngI n) := reads_int Tryz.underlying3
theorem rVal : ReadsAs PA W enc 26 (fun v : Int × Int × List UInt8 => [.int .i64 v.1, .int .i64 v.2.1, .str v.2.2]) (fun v _ => rngI v.1 ∧ rngI v.2.1) := by
  intro n cs x h
  obtain ⟨f0, f1, f2, hu, ⟨t0, o0⟩, ⟨t1, o1⟩, ⟨t2, o2⟩⟩ := st29
  obtain ⟨xs, m, _, hx, hlen, hxl, hf⟩ := DataW.trod_struct hu h
  obtain ⟨a0, q0, c0⟩ := fieldR rInt (fun _ _ _ h _ => h) hx hxl hf 0 rfl t0 o0 cz3
  obtain ⟨a1, q1, c1⟩ := fieldR rInt (fun _ _ _ h _ => h) hx hxl hf 1 rfl t1 o1 cz3
  obtain ⟨a2, q2, c2⟩ := fieldR rStr (fun _ _ _ h _ => h) hx hxl hf 2 rfl t2 o2 cz9
  exact ⟨(a0, a1, a2), ⟨q0, q1⟩, c0.next rfl (c1.next rfl (c2.last (by rw [hlen]; exact cz29)))⟩
theorem rMark : ReadsAs PA W enc 49 (fun p : List UInt8 × Int => [.str p.1, .int .i64 p.2]) (fun p _ => rngI p.2) := by
  intro n cs x h
  obtain ⟨f0, f1, hu, ⟨t0, o0⟩, ⟨t1, o1⟩⟩ := st31
  obtain ⟨xs, m, _, hx, hlen, hxl, hf⟩ := DataW.trod_struct hu h
  obtain ⟨a0, q0, c0⟩ := fieldR rStr (fun _ _ _ h _ => h) hx hxl hf 0 rfl t0 o0 cz9
  obtain ⟨a1, q1, c1⟩ := fieldR rInt (fun _ _ _ h _ => h) hx hxl hf 1 rfl t1 o1 cz3
  exact ⟨(a0, a1), q1, c0.next rfl (c1.last (by rw [hlen]; exact cz31))⟩
def itQ (x : ItI) (_ : Nat) : Prop := rngI x.k ∧ rngI x.n ∧ rngI x.q ∧ rngI x.c
theorem rItem : ReadsAs PA W enc 51 (fun x : ItI => (itA x).cells) itQ := by
  intro n cs x h
  obtain ⟨f0, f1, f2, hu, ⟨t0, o0⟩, ⟨t1, o1⟩, ⟨t2, o2⟩⟩ := st33
  obtain ⟨xs, m, _, hx, hlen, hxl, hf⟩ := DataW.trod_struct hu h
  obtain ⟨a0, q0, c0⟩ := fieldR rVal (fun _ _ _ h _ => h) hx hxl hf 0 rfl t0 o0 cz29
  obtain ⟨a1, q1, c1⟩ := fieldR rMark (fun _ _ _ h _ => h) hx hxl hf 1 rfl t1 o1 cz31
  obtain ⟨a2, q2, c2⟩ := fieldR rInt (fun _ _ _ h _ => h) hx hxl hf 2 rfl t2 o2 cz3
  exact ⟨⟨a0.1, a0.2.1, a0.2.2, a1.1, a1.2, a2⟩, ⟨q0.1, q0.2, q1, q2⟩, c0.next rfl (c1.next rfl (c2.last (by rw [hlen]; exact cz33)))⟩
instance : Inhabited ItI := ⟨⟨0, 0, [], [], 0, 0⟩⟩
def itsQ (l : List ItI) : Prop := l.length ≤ maxLen ∧ ∀ x ∈ l, itQ x 0
theorem rep_len2 {E : Env} {w : World} {sz : Nat} {es : List AV} {o : Own} {v : Value} (h : Rep E w (.sl sz es o) v) : es.length ≤ maxLen := by
  cases h with
  | sl _ _ _ A cap u hcap hmax => exact Nat.le_trans hcap hmax
theorem cells_len {sz : Nat} {es : List AV} {o : Own} {cs : List Value} (h : CellsAre W [.sl sz es o] cs) : es.length ≤ maxLen := by
  match cs, h with
  | [u], h => exact rep_len2 (h.2 0 _ u rfl rfl).1
  | [], h => cases h.1
theorem itsQ_ok {l : List ItI} (h : itsQ l) : l.length ≤ maxLen ∧ ∀ x ∈ l, itOk x := ⟨h.1, fun x hx => ⟨rng_ok (h.2 x hx).2.1, rng_ok (h.2 x hx).2.2.2⟩⟩
theorem rItems : ReadsAs PA W enc 22 (fun l : List ItI => [.sl 6 (itsL l) .no]) (fun l _ => itsQ l) := fun n cs x h => by
  obtain ⟨l, h1, h2⟩ := reads_slice (g := itA) Tryz.underlying22 cz33 (by omega) (fun _ => ⟨rfl, rfl⟩) rItem (fun _ _ _ h _ => h) n cs x h
  have hl := cells_len h2
  rw [List.length_map] at hl
  exact ⟨l, ⟨hl, h1.2⟩, h2⟩
/-! arguments -/
/-- an argument of one cell -/
theorem open_one {t : TypeId} {α : Type} {g : α → AV} {Q : α → Nat → Prop} (hr : ReadsAs PA W enc t (fun a => [g a]) Q) {v : Value} {d : DataW H} {ps : List MemPlace} (h1 : ∃ u, v.cells = #[u] ∧ v = u) (h : DataW.Trod enc PA W 0 (fun _ => true) true t v d ps) : ∃ a, Rep (oldE W) W (g a) v ∧ Q a (Rows.uptoBulk d) := by
  obtain ⟨u, hu, rfl⟩ := h1
  obtain ⟨fuel, h⟩ := h
  rw [hu] at h
  obtain ⟨a, q, c⟩ := hr fuel _ _ h
  exact ⟨a, (c.2 0 _ _ rfl rfl).1, q⟩
end
end Go.Abs

namespace Go.Abs
open Go.ChangeShapes Go.WideShapes Go.ChangeAt Go.RowKit Go.Deep Go.ChangeMaps
open Go.Proofs Go.Proofs.YtdajfgkcpflacaaGreat
section
variable {W : World}
theorem globI : GlobOk GA (oldE W) W := globA (fun g e hg => by cases hg) fun g e hg => by cases hg
end
theorem one_slice {P : Program} {W : World} {t e : TypeId} {v : Value} {b : Nat} (ht : P.underlying t = some (.slice e)) (h : Value.okWide P W .any b t v) : ∃ u, v.cells = #[u] ∧ v = u := by
  obtain ⟨A, n, c, rfl⟩ := okWide_slice ht h
  exact ⟨_, rfl, rfl⟩
theorem one_int {P : Program} {W : World} {t : TypeId} {k : IntKind} {v : Value} {b : Nat} (ht : P.underlying t = some (.int k)) (h : Value.okWide P W .any b t v) : ∃ u, v.cells = #[u] ∧ v = u := by
  obtain ⟨n, rfl⟩ := okWide_int ht h
  exact ⟨_, rfl, rfl⟩
theorem witness_row_shaped {H : Type} {enc : TypeId × Value → H} {C : Checked} {os : Os} {f : FuncId} {fn : Func} {s : OpenSpec} {conds : List PathCond} {apart : Bool} {laid : List (String × DataW Unit)} (w0 : World) (args : Array Value) (hos : w0.os = os)
    (hsh : (w0.forCall (fun _ _ => 0) ⟨#[], args, []⟩).Shaped C.prog)
    (hok : Input.okWideB C.prog (w0.forCall (fun _ _ => 0) ⟨#[], args, []⟩) f ⟨#[], args, []⟩ = true)
    (hrow : s.preRow enc C.prog fn conds apart laid (w0.forCall (fun _ _ => 0) ⟨#[], args, []⟩).memory args) :
    ∃ (w : World) (tape : Tape) (i : Input), w.os = os ∧ (w.forCall tape i).Shaped C.prog ∧ i.vars = [] ∧ Input.okWide C.prog (w.forCall tape i) .any w.heap.size f i ∧
      s.preRow enc C.prog fn conds apart laid (w.forCall tape i).memory i.args ∧ ({} : Assume).holds C.prog (lone (Frame.enter C.prog f i.args .normal) [] (w.forCall tape i)) :=
  ⟨w0, fun _ _ => 0, ⟨#[], args, []⟩, hos, hsh, (Input.okWide_of_okWideB (base := 0) hok).1, (Input.okWide_of_okWideB hok).2, hrow, by
    simp only [Assume.holds]
    exact ⟨by simp, by simp, fun _ => Modest.zero, by simp, by simp⟩⟩

end Go.Abs
