/- Own texts, part 9. -/
import Derived.Test.YtdajfgkcpflacaaGreatPart8
import Derived.Test.YtdajfgkcpflacaaGreatPart3
import Derived.Test.YtdajfgkcpflacaaGreatRows
import Derived.Test.YtdajfgkcpflacaaGreatPart6
import Derived.LaidLaws
import Derived.Lay
import Derived.Shelf.Lay

namespace Go.Abs
open Go.Proofs Go.Proofs.K17 Go.Proofs.D17 Go.RowKit
theorem x4 (m n half event k : Int) (r : AV) : (pureW PA GA XD RD (itbl []) (b4 m n half event k) [] 4 [.int .i64 m, .int .i64 n, .int .i64 half, .int .i64 event, .int .i64 k] (r, [])) =
(CallIs (some (AV.bool true, [])) (AV.bool true) [] ∧
  (true = true →
      ∃ (n_1 : Int),
        ∃ (n_2 : Int),
 ∃ (s : List UInt8),
 CallIs (some (AV.agg [AV.int IntKind.i64 3, AV.int IntKind.i64 m, AV.str []], []))
 (AV.agg [AV.int IntKind.i64 n_1, AV.int IntKind.i64 n_2, AV.str s]) [] ∧
 ∃ (b : Bool),
 CallIs (some (AV.bool (decide (ckP n_1 n_2 s = (0 : Int))), [])) (AV.bool b) [] ∧
 (b = true →
 ∃ (n_3 : Int),
 ∃ (n_4 : Int),
 ∃ (s : List UInt8),
 CallIs (some (AV.agg [AV.int IntKind.i64 3, AV.int IntKind.i64 n, AV.str []], []))
 (AV.agg [AV.int IntKind.i64 n_3, AV.int IntKind.i64 n_4, AV.str s]) [] ∧
 ∃ (b : Bool),
 CallIs (some (AV.bool (decide (ckP n_3 n_4 s = (0 : Int))), [])) (AV.bool b) [] ∧
 (b = true →
 (decide (half < (1 : Int)) = true → RetIs (AV.bool true) [] (r, [])) ∧
 (decide (half < (1 : Int)) = false →
 (decide (half > (1073741824 : Int)) = true → RetIs (AV.bool true) [] (r, [])) ∧
 (decide (half > (1073741824 : Int)) = false →
 (decide (event < (0 : Int)) = true → RetIs (AV.bool true) [] (r, [])) ∧
 (decide (event < (0 : Int)) = false →
 (decide (event > (1099511627776 : Int)) = true → RetIs (AV.bool true) [] (r, [])) ∧
 (decide (event > (1099511627776 : Int)) = false →
 (decide (k < (0 : Int)) = true → RetIs (AV.bool true) [] (r, [])) ∧
 (decide (k < (0 : Int)) = false →
 (decide (k > (40 : Int)) = true → RetIs (AV.bool true) [] (r, [])) ∧
 (decide (k > (40 : Int)) = false →
 (∃ (n_5 : Int),
 ∃ (n_6 : Int),
 ∃ (s : List UInt8),
 CallIs (some (AV.agg [AV.int IntKind.i64 3, AV.int IntKind.i64 m, AV.str []], []))
 (AV.agg [AV.int IntKind.i64 n_5, AV.int IntKind.i64 n_6, AV.str s]) [] ∧
 ∃ (n_7 : Int),
 ∃ (n_8 : Int),
 ∃ (n_9 : Int),
 ∃ (es : List AV),
 ∃ (es_1 : List AV),
 CallIs
 (RD 10
 [AV.str
 [(100 : UInt8), (101 : UInt8), (99 : UInt8), (97 : UInt8),
 (121 : UInt8)],
 AV.sl 6
 [AV.agg
 [AV.int IntKind.i64 n_5, AV.int IntKind.i64 n_6, AV.str s,
 AV.str [], AV.int IntKind.i64 0,
 AV.int IntKind.i64 1]]
 Own.full])
 (AV.agg
 [AV.int IntKind.i64 n_7, AV.int IntKind.i64 n_8, AV.int IntKind.u64 n_9,
 AV.sl 6 es Own.no, AV.sl 2 es_1 Own.no])
 [] ∧
 ∃ (_y : Unit),
 ValsAre
 [AV.int IntKind.i64 m, AV.int IntKind.i64 n, AV.int IntKind.i64 half,
 AV.int IntKind.i64 event, AV.int IntKind.i64 k,
 AV.ptr 0 0, AV.ptr 1 0]
 [AV.int IntKind.i64 m, AV.int IntKind.i64 n, AV.int IntKind.i64 half,
 AV.int IntKind.i64 event, AV.int IntKind.i64 k,
 AV.ptr 0 0, AV.ptr 1 0] ∧
 StIs
 { boxes := [some [AV.int IntKind.i64 5, AV.str [(100 : UInt8), (101 : UInt8), (99 : UInt8), (97 : UInt8), (121 : UInt8)], AV.str [], AV.str [], AV.int IntKind.i64 0, AV.int IntKind.i64 0, AV.str [], AV.sl 0 [] Own.nil, AV.int IntKind.i64 half, AV.int IntKind.i64 0, AV.int IntKind.i64 0, AV.sl 0 [] Own.nil], some [AV.int IntKind.i64 event, AV.int IntKind.i64 n_7, AV.int IntKind.i64 n_8, AV.int IntKind.u64 n_9, AV.sl 6 es Own.no, AV.sl 2 es_1 Own.no]], live := [] }
 { boxes := [some [AV.int IntKind.i64 5, AV.str [(100 : UInt8), (101 : UInt8), (99 : UInt8), (97 : UInt8), (121 : UInt8)], AV.str [], AV.str [], AV.int IntKind.i64 0, AV.int IntKind.i64 0, AV.str [], AV.sl 0 [] Own.nil, AV.int IntKind.i64 half, AV.int IntKind.i64 0, AV.int IntKind.i64 0, AV.sl 0 [] Own.nil], some [AV.int IntKind.i64 (ceM event m).ev, AV.int IntKind.i64 (ceM event m).st.n, AV.int IntKind.i64 (ceM event m).st.h, AV.int IntKind.u64 (ceM event m).st.l, AV.sl 6 [] Own.no, AV.sl 2 [] Own.no]], live := [] } ∧
 True ∧ True) ∧
 ∀ (_x : Unit),
 True →
 True →
 ((decide (k < (32 : Int)) = true →
 ∃ (n_5 : Int),
 ∃ (n_6 : Int),
 CallIs (RD 15 [AV.int IntKind.i64 m])
 (AV.agg [AV.int IntKind.i64 n_5, AV.int IntKind.u64 n_6]) [] ∧
 (0 : Int) ≤ k ∧
 ∃ (n_7 : Int),
 ∃ (b : Bool),
 CallIs
 (RD 14
 [AV.agg [AV.int IntKind.i64 n_5, AV.int IntKind.u64 n_6],
 AV.int IntKind.i64
 (IntKind.i64.wrap
 ((1 : Int) * (2 : Int) ^ min k.toNat 64))])
 (AV.tup [AV.int IntKind.i64 n_7, AV.bool b]) [] ∧
 (b = true →
 ∃ (_y : Unit),
 ValsAre
 [AV.int IntKind.i64 m, AV.int IntKind.i64 n,
 AV.int IntKind.i64 half, AV.int IntKind.i64 event,
 AV.int IntKind.i64 k, AV.ptr 0 0,
 AV.ptr 1 0,
 AV.int IntKind.i64
 (IntKind.i64.wrap
 (event + IntKind.i64.wrap (k * half))),
 AV.int IntKind.i64 n_7]
 [AV.int IntKind.i64 m, AV.int IntKind.i64 n,
 AV.int IntKind.i64 half, AV.int IntKind.i64 event,
 AV.int IntKind.i64 k, AV.ptr 0 0,
 AV.ptr 1 0,
 AV.int IntKind.i64 (event + k * half),
 AV.int IntKind.i64 (wantP m k)] ∧
 StIs
 { boxes := [some [AV.int IntKind.i64 5, AV.str [(100 : UInt8), (101 : UInt8), (99 : UInt8), (97 : UInt8), (121 : UInt8)], AV.str [], AV.str [], AV.int IntKind.i64 0, AV.int IntKind.i64 0, AV.str [], AV.sl 0 [] Own.nil, AV.int IntKind.i64 half, AV.int IntKind.i64 0, AV.int IntKind.i64 0, AV.sl 0 [] Own.nil], some [AV.int IntKind.i64 (ceM event m).ev, AV.int IntKind.i64 (ceM event m).st.n, AV.int IntKind.i64 (ceM event m).st.h, AV.int IntKind.u64 (ceM event m).st.l, AV.sl 6 [] Own.no, AV.sl 2 [] Own.no]], live := [] }
 { boxes := [some [AV.int IntKind.i64 5, AV.str [(100 : UInt8), (101 : UInt8), (99 : UInt8), (97 : UInt8), (121 : UInt8)], AV.str [], AV.str [], AV.int IntKind.i64 0, AV.int IntKind.i64 0, AV.str [], AV.sl 0 [] Own.nil, AV.int IntKind.i64 half, AV.int IntKind.i64 0, AV.int IntKind.i64 0, AV.sl 0 [] Own.nil], some [AV.int IntKind.i64 (ceM event m).ev, AV.int IntKind.i64 (ceM event m).st.n, AV.int IntKind.i64 (ceM event m).st.h, AV.int IntKind.u64 (ceM event m).st.l, AV.sl 6 [] Own.no, AV.sl 2 [] Own.no]], live := [] } ∧
 True ∧ True) ∧
 (b = false →
 ∃ (_y : Unit),
 ValsAre
 [AV.int IntKind.i64 m, AV.int IntKind.i64 n,
 AV.int IntKind.i64 half, AV.int IntKind.i64 event,
 AV.int IntKind.i64 k, AV.ptr 0 0,
 AV.ptr 1 0,
 AV.int IntKind.i64
 (IntKind.i64.wrap
 (event + IntKind.i64.wrap (k * half))),
 AV.int IntKind.i64 n_7]
 [AV.int IntKind.i64 m, AV.int IntKind.i64 n,
 AV.int IntKind.i64 half, AV.int IntKind.i64 event,
 AV.int IntKind.i64 k, AV.ptr 0 0,
 AV.ptr 1 0,
 AV.int IntKind.i64 (event + k * half),
 AV.int IntKind.i64 (wantP m k)] ∧
 StIs
 { boxes := [some [AV.int IntKind.i64 5, AV.str [(100 : UInt8), (101 : UInt8), (99 : UInt8), (97 : UInt8), (121 : UInt8)], AV.str [], AV.str [], AV.int IntKind.i64 0, AV.int IntKind.i64 0, AV.str [], AV.sl 0 [] Own.nil, AV.int IntKind.i64 half, AV.int IntKind.i64 0, AV.int IntKind.i64 0, AV.sl 0 [] Own.nil], some [AV.int IntKind.i64 (ceM event m).ev, AV.int IntKind.i64 (ceM event m).st.n, AV.int IntKind.i64 (ceM event m).st.h, AV.int IntKind.u64 (ceM event m).st.l, AV.sl 6 [] Own.no, AV.sl 2 [] Own.no]], live := [] }
 { boxes := [some [AV.int IntKind.i64 5, AV.str [(100 : UInt8), (101 : UInt8), (99 : UInt8), (97 : UInt8), (121 : UInt8)], AV.str [], AV.str [], AV.int IntKind.i64 0, AV.int IntKind.i64 0, AV.str [], AV.sl 0 [] Own.nil, AV.int IntKind.i64 half, AV.int IntKind.i64 0, AV.int IntKind.i64 0, AV.sl 0 [] Own.nil], some [AV.int IntKind.i64 (ceM event m).ev, AV.int IntKind.i64 (ceM event m).st.n, AV.int IntKind.i64 (ceM event m).st.h, AV.int IntKind.u64 (ceM event m).st.l, AV.sl 6 [] Own.no, AV.sl 2 [] Own.no]], live := [] } ∧
 True ∧ True)) ∧
 (decide (k < (32 : Int)) = false →
 ∃ (_y : Unit),
 ValsAre
 [AV.int IntKind.i64 m, AV.int IntKind.i64 n, AV.int IntKind.i64 half,
 AV.int IntKind.i64 event, AV.int IntKind.i64 k,
 AV.ptr 0 0, AV.ptr 1 0,
 AV.int IntKind.i64 (IntKind.i64.wrap (event + IntKind.i64.wrap (k * half))),
 AV.int IntKind.i64 0]
 [AV.int IntKind.i64 m, AV.int IntKind.i64 n, AV.int IntKind.i64 half,
 AV.int IntKind.i64 event, AV.int IntKind.i64 k,
 AV.ptr 0 0, AV.ptr 1 0,
 AV.int IntKind.i64 (event + k * half), AV.int IntKind.i64 (wantP m k)] ∧
 StIs
 { boxes := [some [AV.int IntKind.i64 5, AV.str [(100 : UInt8), (101 : UInt8), (99 : UInt8), (97 : UInt8), (121 : UInt8)], AV.str [], AV.str [], AV.int IntKind.i64 0, AV.int IntKind.i64 0, AV.str [], AV.sl 0 [] Own.nil, AV.int IntKind.i64 half, AV.int IntKind.i64 0, AV.int IntKind.i64 0, AV.sl 0 [] Own.nil], some [AV.int IntKind.i64 (ceM event m).ev, AV.int IntKind.i64 (ceM event m).st.n, AV.int IntKind.i64 (ceM event m).st.h, AV.int IntKind.u64 (ceM event m).st.l, AV.sl 6 [] Own.no, AV.sl 2 [] Own.no]], live := [] }
 { boxes := [some [AV.int IntKind.i64 5, AV.str [(100 : UInt8), (101 : UInt8), (99 : UInt8), (97 : UInt8), (121 : UInt8)], AV.str [], AV.str [], AV.int IntKind.i64 0, AV.int IntKind.i64 0, AV.str [], AV.sl 0 [] Own.nil, AV.int IntKind.i64 half, AV.int IntKind.i64 0, AV.int IntKind.i64 0, AV.sl 0 [] Own.nil], some [AV.int IntKind.i64 (ceM event m).ev, AV.int IntKind.i64 (ceM event m).st.n, AV.int IntKind.i64 (ceM event m).st.h, AV.int IntKind.u64 (ceM event m).st.l, AV.sl 6 [] Own.no, AV.sl 2 [] Own.no]], live := [] } ∧
 True ∧ True)) ∧
 ∀ (_x : Unit),
 True →
 True →
 (∃ (n_5 : Int),
 ∃ (n_6 : Int),
 ∃ (s : List UInt8),
 CallIs
 (RD 9
 [AV.agg
 [AV.int IntKind.i64 5,
 AV.str
 [(100 : UInt8), (101 : UInt8), (99 : UInt8), (97 : UInt8),
 (121 : UInt8)],
 AV.str [], AV.str [], AV.int IntKind.i64 0,
 AV.int IntKind.i64 0, AV.str [],
 AV.sl 0 [] Own.nil, AV.int IntKind.i64 half,
 AV.int IntKind.i64 0, AV.int IntKind.i64 0,
 AV.sl 0 [] Own.nil],
 AV.int IntKind.i64 3,
 AV.sl 6
 [AV.agg
 [AV.int IntKind.i64 (ceM event m).ev,
 AV.int IntKind.i64 (ceM event m).st.n,
 AV.int IntKind.i64 (ceM event m).st.h,
 AV.int IntKind.u64 (ceM event m).st.l,
 AV.sl 6 [] Own.no, AV.sl 2 [] Own.no]]
 Own.full,
 AV.int IntKind.i64 (event + k * half)])
 (AV.agg [AV.int IntKind.i64 n_5, AV.int IntKind.i64 n_6, AV.str s])
 [] ∧
 ∃ (n_7 : Int),
 ∃ (n_8 : Int),
 ∃ (s_1 : List UInt8),
 CallIs
 (some
 (AV.agg
 [AV.int IntKind.i64 3,
 AV.int IntKind.i64 (wantP m k), AV.str []],
 []))
 (AV.agg
 [AV.int IntKind.i64 n_7, AV.int IntKind.i64 n_8,
 AV.str s_1])
 [] ∧
 ((!(n_5 == n_7 && (n_6 == n_8 && (s == s_1 && true)))) = true →
 RetIs (AV.bool false) [] (r, [])) ∧
 ((!(n_5 == n_7 && (n_6 == n_8 && (s == s_1 && true)))) =
 false →
 ∃ (_y : Unit),
 ValsAre
 [AV.int IntKind.i64 m, AV.int IntKind.i64 n,
 AV.int IntKind.i64 half, AV.int IntKind.i64 event,
 AV.int IntKind.i64 k,
 AV.ptr 0 0,
 AV.ptr 1 0,
 AV.int IntKind.i64 (event + k * half)]
 [AV.int IntKind.i64 m, AV.int IntKind.i64 n,
 AV.int IntKind.i64 half, AV.int IntKind.i64 event,
 AV.int IntKind.i64 k,
 AV.ptr 0 0,
 AV.ptr 1 0,
 AV.int IntKind.i64 (event + k * half)] ∧
 StIs
 { boxes := [some [AV.int IntKind.i64 5, AV.str [(100 : UInt8), (101 : UInt8), (99 : UInt8), (97 : UInt8), (121 : UInt8)], AV.str [], AV.str [], AV.int IntKind.i64 0, AV.int IntKind.i64 0, AV.str [], AV.sl 0 [] Own.nil, AV.int IntKind.i64 half, AV.int IntKind.i64 0, AV.int IntKind.i64 0, AV.sl 0 [] Own.nil], some [AV.int IntKind.i64 (ceM event m).ev, AV.int IntKind.i64 (ceM event m).st.n, AV.int IntKind.i64 (ceM event m).st.h, AV.int IntKind.u64 (ceM event m).st.l, AV.sl 6 [] Own.no, AV.sl 2 [] Own.no]], live := [] }
 { boxes := [some [AV.int IntKind.i64 5, AV.str [(100 : UInt8), (101 : UInt8), (99 : UInt8), (97 : UInt8), (121 : UInt8)], AV.str [], AV.str [], AV.int IntKind.i64 0, AV.int IntKind.i64 0, AV.str [], AV.sl 0 [] Own.nil, AV.int IntKind.i64 half, AV.int IntKind.i64 0, AV.int IntKind.i64 0, AV.sl 0 [] Own.nil], some [AV.int IntKind.i64 (ceM event m).ev, AV.int IntKind.i64 (ceM event m).st.n, AV.int IntKind.i64 (ceM event m).st.h, AV.int IntKind.u64 (ceM event m).st.l, AV.sl 6 [] Own.no, AV.sl 2 [] Own.no]], live := [] } ∧
 True ∧ True)) ∧
 ∀ (_x : Unit),
 True →
 True →
 (∃ (n_5 : Int),
 ∃ (n_6 : Int),
 ∃ (s : List UInt8),
 CallIs
 (some
 (AV.agg
 [AV.int IntKind.i64 3, AV.int IntKind.i64 n,
 AV.str []],
 []))
 (AV.agg
 [AV.int IntKind.i64 n_5, AV.int IntKind.i64 n_6, AV.str s])
 [] ∧
 ∃ (n_7 : Int),
 ∃ (n_8 : Int),
 ∃ (n_9 : Int),
 ∃ (es : List AV),
 ∃ (es_1 : List AV),
 CallIs
 (RD 10
 [AV.str
 [(100 : UInt8), (101 : UInt8), (99 : UInt8),
 (97 : UInt8), (121 : UInt8)],
 AV.sl 6
 [AV.agg
 [AV.int IntKind.i64 n_5,
 AV.int IntKind.i64 n_6, AV.str s,
 AV.str [],
 AV.int IntKind.i64 0,
 AV.int IntKind.i64 1]]
 Own.full])
 (AV.agg
 [AV.int IntKind.i64 n_7, AV.int IntKind.i64 n_8,
 AV.int IntKind.u64 n_9,
 AV.sl 6 es Own.no,
 AV.sl 2 es_1 Own.no])
 [] ∧
 ∃ (_y : Unit),
 ValsAre
 [AV.int IntKind.i64 m, AV.int IntKind.i64 n,
 AV.int IntKind.i64 half,
 AV.int IntKind.i64 event,
 AV.int IntKind.i64 k,
 AV.ptr 0 0,
 AV.ptr 1 0,
 AV.int IntKind.i64 (event + k * half),
 AV.ptr 2 0]
 [AV.int IntKind.i64 m, AV.int IntKind.i64 n,
 AV.int IntKind.i64 half,
 AV.int IntKind.i64 event,
 AV.int IntKind.i64 k,
 AV.ptr 0 0,
 AV.ptr 1 0,
 AV.int IntKind.i64 (event + k * half),
 AV.ptr 2 0] ∧
 StIs
 { boxes := [some [AV.int IntKind.i64 5, AV.str [(100 : UInt8), (101 : UInt8), (99 : UInt8), (97 : UInt8), (121 : UInt8)], AV.str [], AV.str [], AV.int IntKind.i64 0, AV.int IntKind.i64 0, AV.str [], AV.sl 0 [] Own.nil, AV.int IntKind.i64 half, AV.int IntKind.i64 0, AV.int IntKind.i64 0, AV.sl 0 [] Own.nil], some [AV.int IntKind.i64 (ceM event m).ev, AV.int IntKind.i64 (ceM event m).st.n, AV.int IntKind.i64 (ceM event m).st.h, AV.int IntKind.u64 (ceM event m).st.l, AV.sl 6 [] Own.no, AV.sl 2 [] Own.no], some [AV.int IntKind.i64 (event + k * half), AV.int IntKind.i64 n_7, AV.int IntKind.i64 n_8, AV.int IntKind.u64 n_9, AV.sl 6 es Own.no, AV.sl 2 es_1 Own.no]], live := [] }
 { boxes := [some [AV.int IntKind.i64 5, AV.str [(100 : UInt8), (101 : UInt8), (99 : UInt8), (97 : UInt8), (121 : UInt8)], AV.str [], AV.str [], AV.int IntKind.i64 0, AV.int IntKind.i64 0, AV.str [], AV.sl 0 [] Own.nil, AV.int IntKind.i64 half, AV.int IntKind.i64 0, AV.int IntKind.i64 0, AV.sl 0 [] Own.nil], some [AV.int IntKind.i64 (ceM event m).ev, AV.int IntKind.i64 (ceM event m).st.n, AV.int IntKind.i64 (ceM event m).st.h, AV.int IntKind.u64 (ceM event m).st.l, AV.sl 6 [] Own.no, AV.sl 2 [] Own.no], some [AV.int IntKind.i64 (ceM (event + k * half) n).ev, AV.int IntKind.i64 (ceM (event + k * half) n).st.n, AV.int IntKind.i64 (ceM (event + k * half) n).st.h, AV.int IntKind.u64 (ceM (event + k * half) n).st.l, AV.sl 6 [] Own.no, AV.sl 2 [] Own.no]], live := [] } ∧
 True ∧ True) ∧
 ∀ (_x : Unit),
 True →
 True →
 (∃ (n_5 : Int),
 CallIs
 (RD 18
 [AV.int IntKind.i64 half,
 AV.int IntKind.i64 (IntKind.i64.wrap (k * half))])
 (AV.int IntKind.i64 n_5) [] ∧
 ∃ (n_6 : Int),
 ∃ (n_7 : Int),
 CallIs
 (RD 17
 [AV.int IntKind.i64 m, AV.int IntKind.i64 n_5])
 (AV.agg
 [AV.int IntKind.i64 n_6, AV.int IntKind.u64 n_7])
 [] ∧
 ∃ (n_8 : Int),
 ∃ (n_9 : Int),
 CallIs
 (RD 17
 [AV.int IntKind.i64 n,
 AV.int IntKind.i64 4294967296])
 (AV.agg
 [AV.int IntKind.i64 n_8,
 AV.int IntKind.u64 n_9])
 [] ∧
 ∃ (n_10 : Int),
 ∃ (n_11 : Int),
 CallIs
 (RD 16
 [AV.agg
 [AV.int IntKind.i64 n_6,
 AV.int IntKind.u64 n_7],
 AV.agg
 [AV.int IntKind.i64 n_8,
 AV.int IntKind.u64 n_9]])
 (AV.agg
 [AV.int IntKind.i64 n_10,
 AV.int IntKind.u64 n_11])
 [] ∧
 ∃ (_y : Unit),
 ValsAre
 [AV.int IntKind.i64 m,
 AV.int IntKind.i64 n,
 AV.int IntKind.i64 half,
 AV.int IntKind.i64 event,
 AV.int IntKind.i64 k,
 AV.ptr 0 0,
 AV.ptr 1 0,
 AV.int IntKind.i64
 (event + k * half),
 AV.ptr 2 0,
 AV.ptr 3 0]
 [AV.int IntKind.i64 m,
 AV.int IntKind.i64 n,
 AV.int IntKind.i64 half,
 AV.int IntKind.i64 event,
 AV.int IntKind.i64 k,
 AV.ptr 0 0,
 AV.ptr 1 0,
 AV.int IntKind.i64
 (event + k * half),
 AV.ptr 2 0,
 AV.ptr 3 0] ∧
 StIs
 { boxes := [some [AV.int IntKind.i64 5, AV.str [(100 : UInt8), (101 : UInt8), (99 : UInt8), (97 : UInt8), (121 : UInt8)], AV.str [], AV.str [], AV.int IntKind.i64 0, AV.int IntKind.i64 0, AV.str [], AV.sl 0 [] Own.nil, AV.int IntKind.i64 half, AV.int IntKind.i64 0, AV.int IntKind.i64 0, AV.sl 0 [] Own.nil], some [AV.int IntKind.i64 (ceM event m).ev, AV.int IntKind.i64 (ceM event m).st.n, AV.int IntKind.i64 (ceM event m).st.h, AV.int IntKind.u64 (ceM event m).st.l, AV.sl 6 [] Own.no, AV.sl 2 [] Own.no], some [AV.int IntKind.i64 (ceM (event + k * half) n).ev, AV.int IntKind.i64 (ceM (event + k * half) n).st.n, AV.int IntKind.i64 (ceM (event + k * half) n).st.h, AV.int IntKind.u64 (ceM (event + k * half) n).st.l, AV.sl 6 [] Own.no, AV.sl 2 [] Own.no], some [AV.int IntKind.i64 n_10, AV.int IntKind.u64 n_11]], live := [] }
 { boxes := [some [AV.int IntKind.i64 5, AV.str [(100 : UInt8), (101 : UInt8), (99 : UInt8), (97 : UInt8), (121 : UInt8)], AV.str [], AV.str [], AV.int IntKind.i64 0, AV.int IntKind.i64 0, AV.str [], AV.sl 0 [] Own.nil, AV.int IntKind.i64 half, AV.int IntKind.i64 0, AV.int IntKind.i64 0, AV.sl 0 [] Own.nil], some [AV.int IntKind.i64 (ceM event m).ev, AV.int IntKind.i64 (ceM event m).st.n, AV.int IntKind.i64 (ceM event m).st.h, AV.int IntKind.u64 (ceM event m).st.l, AV.sl 6 [] Own.no, AV.sl 2 [] Own.no], some [AV.int IntKind.i64 (ceM (event + k * half) n).ev, AV.int IntKind.i64 (ceM (event + k * half) n).st.n, AV.int IntKind.i64 (ceM (event + k * half) n).st.h, AV.int IntKind.u64 (ceM (event + k * half) n).st.l, AV.sl 6 [] Own.no, AV.sl 2 [] Own.no], some [AV.int IntKind.i64 (whi (sumD m n half k)), AV.int IntKind.u64 (wlo (sumD m n half k))]], live := [] } ∧
 True ∧ True) ∧
 ∀ (_x : Unit),
 True →
 True →
 ∃ (n_5 : Int),
 ∃ (b : Bool),
 CallIs
 (RD 14
 [AV.agg
 [AV.int IntKind.i64 (whi (sumD m n half k)),
 AV.int IntKind.u64
 (wlo (sumD m n half k))],
 AV.int IntKind.i64 4294967296])
 (AV.tup [AV.int IntKind.i64 n_5, AV.bool b]) [] ∧
 (b = true →
 ∃ (n_6 : Int),
 ∃ (n_7 : Int),
 ∃ (s : List UInt8),
 CallIs
 (RD 9
 [AV.agg
 [AV.int IntKind.i64 5,
 AV.str
 [(100 : UInt8),
 (101 : UInt8),
 (99 : UInt8),
 (97 : UInt8),
 (121 : UInt8)],
 AV.str [], AV.str [],
 AV.int IntKind.i64 0,
 AV.int IntKind.i64 0,
 AV.str [],
 AV.sl 0 [] Own.nil,
 AV.int IntKind.i64 half,
 AV.int IntKind.i64 0,
 AV.int IntKind.i64 0,
 AV.sl 0 [] Own.nil],
 AV.int IntKind.i64 3,
 AV.sl 6
 [AV.agg
 [AV.int IntKind.i64
 (ceM event m).ev,
 AV.int IntKind.i64
 (ceM event m).st.n,
 AV.int IntKind.i64
 (ceM event m).st.h,
 AV.int IntKind.u64
 (ceM event m).st.l,
 AV.sl 6 []
 Own.no,
 AV.sl 2 []
 Own.no],
 AV.agg
 [AV.int IntKind.i64
 (ceM (event + k * half)
 n).ev,
 AV.int IntKind.i64
 (ceM (event + k * half)
 n).st.n,
 AV.int IntKind.i64
 (ceM (event + k * half)
 n).st.h,
 AV.int IntKind.u64
 (ceM (event + k * half)
 n).st.l,
 AV.sl 6 []
 Own.no,
 AV.sl 2 []
 Own.no]]
 Own.full,
 AV.int IntKind.i64
 (event + k * half)])
 (AV.agg
 [AV.int IntKind.i64 n_6,
 AV.int IntKind.i64 n_7, AV.str s])
 [] ∧
 ∃ (n : Int),
 ∃ (n_8 : Int),
 ∃ (s_1 : List UInt8),
 CallIs
 (some
 (AV.agg
 [AV.int IntKind.i64 3,
 AV.int IntKind.i64
 n_5,
 AV.str []],
 []))
 (AV.agg
 [AV.int IntKind.i64 n,
 AV.int IntKind.i64 n_8,
 AV.str s_1])
 [] ∧
 ((n_6 == n &&
 (n_7 == n_8 &&
 (s == s_1 && true))) =
 true →
 RetIs (AV.bool true) []
 (r, [])) ∧
 ((n_6 == n &&
 (n_7 == n_8 &&
 (s == s_1 && true))) =
 false →
 RetIs (AV.bool false) []
 (r, []))) ∧
 (b = false →
 ∃ (n_6 : Int),
 ∃ (n_7 : Int),
 ∃ (s : List UInt8),
 CallIs
 (RD 9
 [AV.agg
 [AV.int IntKind.i64 5,
 AV.str
 [(100 : UInt8),
 (101 : UInt8),
 (99 : UInt8),
 (97 : UInt8),
 (121 : UInt8)],
 AV.str [], AV.str [],
 AV.int IntKind.i64 0,
 AV.int IntKind.i64 0,
 AV.str [],
 AV.sl 0 [] Own.nil,
 AV.int IntKind.i64 half,
 AV.int IntKind.i64 0,
 AV.int IntKind.i64 0,
 AV.sl 0 [] Own.nil],
 AV.int IntKind.i64 3,
 AV.sl 6
 [AV.agg
 [AV.int IntKind.i64
 (ceM event m).ev,
 AV.int IntKind.i64
 (ceM event m).st.n,
 AV.int IntKind.i64
 (ceM event m).st.h,
 AV.int IntKind.u64
 (ceM event m).st.l,
 AV.sl 6 []
 Own.no,
 AV.sl 2 []
 Own.no],
 AV.agg
 [AV.int IntKind.i64
 (ceM (event + k * half)
 n).ev,
 AV.int IntKind.i64
 (ceM (event + k * half)
 n).st.n,
 AV.int IntKind.i64
 (ceM (event + k * half)
 n).st.h,
 AV.int IntKind.u64
 (ceM (event + k * half)
 n).st.l,
 AV.sl 6 []
 Own.no,
 AV.sl 2 []
 Own.no]]
 Own.full,
 AV.int IntKind.i64
 (event + k * half)])
 (AV.agg
 [AV.int IntKind.i64 n_6,
 AV.int IntKind.i64 n_7, AV.str s])
 [] ∧
 ((n_6 == (0 : Int) &&
 (n_7 == (0 : Int) &&
 (s == [] && true))) =
 true →
 RetIs (AV.bool true) [] (r, [])) ∧
 ((n_6 == (0 : Int) &&
 (n_7 == (0 : Int) &&
 (s == [] && true))) =
 false →
 RetIs (AV.bool false) []
 (r, [])))))))))) ∧
 (b = false → RetIs (AV.bool true) [] (r, []))) ∧
 (b = false → RetIs (AV.bool true) [] (r, []))) ∧
    (true = false → RetIs (AV.bool false) [] (r, []))) := by kernel_rfl
end Go.Abs

namespace Go.Abs
open Go.Proofs Go.Proofs.K17 Go.Proofs.D17 Go.RowKit
abbrev tD : List (FuncId × Spec) := [(7, s7), (12, v12), (13, v13), (10, s12), (15, s53), (14, s55), (9, s18), (18, s8), (17, s48), (16, s47)]
theorem rd10 {e m : Int} (hm : iOk m) {o : Own} : tbl tD 10 [.str bDecay, .sl 6 [.agg [.int .i64 3, .int .i64 m, .str [], .str [], .int .i64 0, .int .i64 1]] o] = some (.agg [.int .i64 (ceM e m).st.n, .int .i64 (ceM e m).st.h, .int .u64 (ceM e m).st.l, .sl 6 (itsL (ceM e m).st.its) .no, .sl 2 (bksL (ceM e m).st.bks) .no], []) := by
  rw [tb_miss (by decide), tb_miss (by decide), tb_miss (by decide), tb_hit]
  simp only [s12, show unL unI [.agg [.int .i64 3, .int .i64 m, .str [], .str [], .int .i64 0, .int .i64 1]] = some [itM m] from rfl]
  rw [if_pos ⟨.inl trivial, by simp, fun x hx => by obtain rfl := List.mem_singleton.1 hx; exact ⟨hm, by show iOk 1; unfold iOk; decide⟩⟩]
  rfl
theorem rd15 {m : Int} (hm : iOk m) : tbl tD 15 [.int .i64 m] = some (.agg [.int .i64 (whi m), .int .u64 (wlo m)], []) := by
  rw [tb_miss (by decide), tb_miss (by decide), tb_miss (by decide), tb_miss (by decide), tb_hit]
  simp only [s53]; rw [if_pos hm, wideA_st]
theorem rd14 {h l d : Int} (hw : wOk h l) (hd : iOk d) : tbl tD 14 [.agg [.int .i64 h, .int .u64 l], .int .i64 d] = some (.tup [.int .i64 (divP (wv h l) d).1, .bool (divP (wv h l) d).2], []) := by
  rw [tb_miss (by decide), tb_miss (by decide), tb_miss (by decide), tb_miss (by decide), tb_miss (by decide), tb_hit]
  simp only [s55]; rw [if_pos ⟨hw, hd⟩]
theorem rd9 {half t : Int} {o : Own} {C : List CeI} (hC : cesOk C) (hp : iOk half) : tbl tD 9 [.agg (exC 5 bDecay half), .int .i64 3, .sl 6 (cesL C) o, .int .i64 t] = some (resP bDecay half 3 C t, []) := by
  rw [tb_miss (by decide), tb_miss (by decide), tb_miss (by decide), tb_miss (by decide), tb_miss (by decide), tb_miss (by decide), tb_hit]
  simp only [s18, show unL unCe (cesL C) = some C from unL_map unCe_ok C]
  rw [if_pos ⟨⟨⟨rfl, rfl, rfl⟩, by simp⟩, .inl trivial, hC, hp⟩]
theorem rd18 {h a : Int} (h1 : iOk h) (h2 : iOk a) : tbl tD 18 [.int .i64 h, .int .i64 a] = some (.int .i64 (weightP h a), []) := by
  rw [tb_miss (by decide), tb_miss (by decide), tb_miss (by decide), tb_miss (by decide), tb_miss (by decide), tb_miss (by decide), tb_miss (by decide), tb_hit]
  simp only [s8]; rw [if_pos ⟨h1, h2⟩]
theorem rd17 {a b : Int} (h1 : iOk a) (h2 : iOk b) : tbl tD 17 [.int .i64 a, .int .i64 b] = some (.agg [.int .i64 (whi (a * b)), .int .u64 (wlo (a * b))], []) := by
  rw [tb_miss (by decide), tb_miss (by decide), tb_miss (by decide), tb_miss (by decide), tb_miss (by decide), tb_miss (by decide), tb_miss (by decide), tb_miss (by decide), tb_hit]
  simp only [s48]; rw [if_pos ⟨h1, h2⟩, wideA_st]
theorem rd16 {x y : Int} : tbl tD 16 [.agg [.int .i64 (whi x), .int .u64 (wlo x)], .agg [.int .i64 (whi y), .int .u64 (wlo y)]] = some (.agg [.int .i64 (whi (x + y)), .int .u64 (wlo (x + y))], []) := by
  rw [tb_miss (by decide), tb_miss (by decide), tb_miss (by decide), tb_miss (by decide), tb_miss (by decide), tb_miss (by decide), tb_miss (by decide), tb_miss (by decide), tb_miss (by decide), tb_hit]
  simp only [s47, sW2]; rw [if_pos ⟨w_ok _, w_ok _⟩, wv_sg, wv_sg, add_sg2]
theorem r4 (m n half event k : Int) (hm : iOk m) (hn : iOk n) (hh : iOk half) (_he : iOk event) (_hk : iOk k) :
    PureOk PA GA XD RD (itbl []) (b4 m n half event k) [] 4 [.int .i64 m, .int .i64 n, .int .i64 half, .int .i64 event, .int .i64 k] (.bool true, []) := by
  constructor
  rw [x4]
  unfold RD
  have yes : RetIs (AV.bool true) [] (AV.bool true, []) := retIs_iff.2 rfl
  refine ⟨callIs_iff.2 rfl, fun _ => ⟨_, _, _, callIs_iff.2 rfl, _, callIs_iff.2 rfl, fun c1 => ⟨_, _, _, callIs_iff.2 rfl, _, callIs_iff.2 rfl, fun c2 => ⟨fun _ => yes, fun c3 => ⟨fun _ => yes, fun c4 => ⟨fun _ => yes, fun c5 => ⟨fun _ => yes, fun c6 => ⟨fun _ => yes, fun c7 => ⟨fun _ => yes, fun c8 => ?_⟩⟩⟩⟩⟩⟩, fun _ => yes⟩, fun _ => yes⟩, fun h => (nomatch h)⟩
  have c1 := ck3 c1
  have c2 := ck3 c2
  have c3 := of_decide_eq_false c3
  have c4 := of_decide_eq_false c4
  have c5 := of_decide_eq_false c5
  have c6 := of_decide_eq_false c6
  have c7 := of_decide_eq_false c7
  have c8 := of_decide_eq_false c8
  have hkh : 0 ≤ k * half ∧ k * half ≤ 42949672960 := by
    have a1 := Int.mul_nonneg (show 0 ≤ k by omega) (show 0 ≤ half by omega)
    have a2 := Int.mul_le_mul_of_nonneg_right (show k ≤ 40 by omega) (show 0 ≤ half by omega)
    omega
  have w1 : IntKind.i64.wrap (k * half) = k * half := iwN ⟨by omega, by omega⟩
  have w2 : IntKind.i64.wrap (event + k * half) = event + k * half := iwN ⟨by omega, by omega⟩
  have e1 := ceM_n (e := event) hm
  have e2 := ceM_n (e := event + k * half) hn
  have C1 : cesOk [ceM event m] := ⟨by simp, fun c hc => by obtain rfl := List.mem_singleton.1 hc; exact e1.2.2.2⟩
  have C2 : cesOk [ceM event m, ceM (event + k * half) n] := ⟨by simp, fun c hc => by
    rcases List.mem_cons.1 hc with rfl | hc
    · exact e1.2.2.2
    · obtain rfl := List.mem_singleton.1 hc; exact e2.2.2.2⟩
  rw [w1, w2]
  refine ⟨⟨_, _, _, callIs_iff.2 rfl, _, _, _, _, _, callIs_iff.2 (rd10 (e := event) hm), (), ⟨rfl⟩, ⟨rfl⟩, trivial, trivial⟩, fun _ _ _ => ⟨⟨fun d => ?_, fun d => ⟨(), ⟨?_⟩, ⟨rfl⟩, trivial, trivial⟩⟩, fun _ _ _ => ⟨?_, fun _ _ _ => ⟨⟨_, _, _, callIs_iff.2 rfl, _, _, _, _, _, callIs_iff.2 (rd10 (e := event + k * half) hn), (), ⟨rfl⟩, ⟨rfl⟩, trivial, trivial⟩, fun _ _ _ => ⟨?_, fun _ _ _ => ?_⟩⟩⟩⟩⟩
  · have d := of_decide_eq_true d
    have hp := p2z k.toNat
    have hp2 : (2 : Int) ^ k.toNat ≤ 2147483648 := by
      have e : (2 : Int) ^ k.toNat * 2 ^ (31 - k).toNat = 2147483648 := by rw [← Int.pow_add, show k.toNat + (31 - k).toNat = 31 by omega]; rfl
      have h2k := p2z (31 - k).toNat
      have := Int.mul_le_mul_of_nonneg_left (show (1 : Int) ≤ 2 ^ (31 - k).toNat by omega) (Int.le_of_lt hp)
      omega
    have w3 : IntKind.i64.wrap (1 * 2 ^ min k.toNat 64) = 2 ^ k.toNat := by
      rw [show min k.toNat 64 = k.toNat by omega, Int.one_mul]; exact iwN ⟨by omega, by omega⟩
    have hv : sg m = m := sg_id (by unfold bigOk; omega)
    have hw : wantP m k = (divP m (2 ^ k.toNat)).1 := by unfold wantP; rw [if_pos d]
    have c14 := rd14 (h := whi m) (l := wlo m) (d := 2 ^ k.toNat) (w_ok m) ⟨by omega, by omega⟩
    rw [wv_sg, hv, ← hw] at c14
    rw [w3]
    exact ⟨_, _, callIs_iff.2 (rd15 hm), by omega, _, _, callIs_iff.2 c14, fun _ => ⟨(), ⟨rfl⟩, ⟨rfl⟩, trivial, trivial⟩, fun _ => ⟨(), ⟨rfl⟩, ⟨rfl⟩, trivial, trivial⟩⟩
  · have d := of_decide_eq_false d
    have hw : wantP m k = 0 := by unfold wantP; rw [if_neg d]
    rw [hw]
  · have c9 := rd9 (t := event + k * half) (o := .full) C1 hh
    rw [resD1 c1 (by omega) (by omega) (by omega) (by omega) (by omega) hkh] at c9
    refine ⟨_, _, _, callIs_iff.2 c9, _, _, _, callIs_iff.2 rfl, fun c => ?_, fun _ => ⟨(), ⟨rfl⟩, ⟨rfl⟩, trivial, trivial⟩⟩
    simp at c
  · have ww := weight_ok half (k * half)
    exact ⟨_, callIs_iff.2 (rd18 hh ⟨by omega, by omega⟩), _, _, callIs_iff.2 (rd17 hm ⟨by omega, by omega⟩), _, _, callIs_iff.2 (rd17 hn (by unfold iOk; decide)), _, _, callIs_iff.2 rd16, (), ⟨rfl⟩, ⟨rfl⟩, trivial, trivial⟩
  · have c14 := rd14 (h := whi (sumD m n half k)) (l := wlo (sumD m n half k)) (d := 4294967296) (w_ok _) (by unfold iOk; decide)
    rw [wv_sg] at c14
    have c9 := rd9 (t := event + k * half) (o := .full) C2 hh
    rw [resD2 hm hn (by omega) (by omega) (by omega) hkh] at c9
    refine ⟨_, _, callIs_iff.2 c14, fun b => ?_, fun b => ?_⟩
    · rw [num_of b] at c9
      refine ⟨_, _, _, callIs_iff.2 c9, _, _, _, callIs_iff.2 rfl, fun _ => yes, fun c => ?_⟩
      simp at c
    · have : numP 3 (sg (sumD m n half k)) 4294967296 = valA 0 0 [] := by unfold numP; rw [b]; rfl
      rw [this] at c9
      refine ⟨_, _, _, callIs_iff.2 c9, fun _ => yes, fun c => ?_⟩
      simp at c
theorem run13 (n : Int) : (evs PA GA (tbl []) (fun _ => []) 5).1 13 [.int .i64 n] = some (valA 3 n [], []) := by kernel_rfl
theorem j13 : SpecOk PA GA 13 v13 := spec_run mixedA tbl_nil fun args r h => by
  unfold v13 at h
  split at h
  case h_2 => cases h
  injection h with h; subst h
  exact ⟨5, run13 _⟩
theorem k4 : SpecOk PA GA 4 u4 := spec_of (X := XD) (m := []) mixedA (show CalleeOk PA GA RD from tbl_cons o7 (tbl_cons j12 (tbl_cons j13 (tbl_cons o12 (tbl_cons o53 (tbl_cons (o55 o57) (tbl_cons o18 (tbl_cons o8 (tbl_cons o48 (tbl_cons o47 tbl_nil)))))))))) itbl_nil fun args r h => by
  unfold u4 at h
  split at h
  case h_2 => cases h
  split at h
  case isFalse => cases h
  rename_i hc
  injection h with h; subst h
  exact ⟨_, r4 _ _ _ _ _ hc.1 hc.2.1 hc.2.2.1 hc.2.2.2.1 hc.2.2.2.2⟩
theorem u4_true (m n half event k : Int) (hm : iOk m) (hn : iOk n) (hh : iOk half) (he : iOk event) (hk : iOk k) : u4 [.int .i64 m, .int .i64 n, .int .i64 half, .int .i64 event, .int .i64 k] = some (.bool true, []) := if_pos ⟨hm, hn, hh, he, hk⟩
end Go.Abs

namespace Go.Abs
open Go.ChangeShapes Go.WideShapes Go.ChangeAt Go.RowKit Go.Deep Go.ChangeMaps
open Go.Proofs Go.Proofs.YtdajfgkcpflacaaGreat
section
variable {H : Type} {enc : TypeId × Value → H} {P : Program} {W : World}
def ElemR (P : Program) (W : World) (enc : TypeId × Value → H) (e : TypeId) {α : Type} (g : α → AV) (Q : α → DataW H → Prop) : Prop :=
  ∀ n cs x, DataW.trod enc P W 0 (fun _ => true) true n e cs = some x → ∃ a : α, Q a x.1 ∧ ∀ (j : Nat) (c : AV) (u : Value), (g a).cells[j]? = some c → cs[j]? = some u → Rep (oldE W) W c u ∧ u.oneCell' = true
theorem open_slR {t e : TypeId} {sz : Nat} {α : Type} [Inhabited α] {g : α → AV} {Q : α → DataW H → Prop} (ht : P.underlying t = some (.slice e)) (hc : P.cellsOf e = sz) (hsz : 0 < sz) (hg : ∀ a, (g a).cells.length = sz ∧ (g a).closed1 = true) (hel : ElemR P W enc e g Q)
    {v : Value} {d : DataW H} {ps : List MemPlace} (hv : ∃ A len cap, v = .slice A len cap) (h : DataW.Trod enc P W 0 (fun _ => true) true t v d ps) :
    ∃ l : List α, Rep (oldE W) W (.sl sz (l.map g) .no) v ∧ (l = [] ∨ ∃ elems spare, d = .slice elems spare ∧ elems.length = l.length ∧ ∀ (i : Nat) a x, l[i]? = some a → elems[i]? = some x → Q a x) := by
  obtain ⟨a, len, cap, rfl⟩ := hv
  obtain ⟨fuel, h⟩ := h
  rcases open_slice ht h with ⟨hcs, _⟩ | ⟨a', len', cap', m, n, D, Pl, hcs, hb, hl, hmx, hm, hx, hels⟩
  · simp [Value.cells] at hcs
    obtain ⟨rfl, rfl, rfl⟩ := hcs
    exact ⟨[], .sl sz [] .no none 0 (fun _ _ => .bool false) (by simp) (by simp [maxLen]) (.inl rfl) (by simp) (by simp) trivial (by simp) (fun _ _ => rfl), .inl rfl⟩
  · simp [Value.cells] at hcs
    obtain ⟨rfl, rfl, rfl⟩ := hcs
    have hm' : m = cap := by simpa using hm
    have hch : ∀ i, i < len → ∃ x : α × List Value, x.2.length = sz ∧ (∀ j, j < sz → W.cell? (a'.add (i * sz + j)) = x.2[j]?) ∧ Q x.1 (D i) ∧ ∀ (j : Nat) (c : AV) (u : Value), (g x.1).cells[j]? = some c → x.2[j]? = some u → Rep (oldE W) W c u ∧ u.oneCell' = true := fun i hi => by
      obtain ⟨cs, hcs, ht'⟩ := hels i (by omega)
      rw [hc] at hcs
      obtain ⟨_, hlen, hat⟩ := World.cells?_some hcs
      obtain ⟨x, hq, hx⟩ := hel n cs _ ht'
      refine ⟨(x, cs), hlen, fun j hj => ?_, hq, hx⟩
      have := hat j hj
      rw [Go.Deep.add_add] at this
      exact this
    obtain ⟨f, hf⟩ := choose_lt hch
    refine ⟨(List.range len).map fun i => (f i).1, ?_, .inr ?_⟩
    · have hlen : ((List.range len).map fun i => (f i).1).length = len := by simp
      have hln : (((List.range len).map fun i => (f i).1).map g).length = len := by simp
      have hget : ∀ (i : Nat) (e' : AV), (((List.range len).map fun i => (f i).1).map g)[i]? = some e' → i < len ∧ e' = g (f i).1 := fun i e' h => by
        have hi : i < len := by
          have := (List.getElem?_eq_some_iff.1 h).1
          simpa using this
        refine ⟨hi, ?_⟩
        simp [List.getElem?_range hi] at h
        exact h.symm
      let u : Nat → Nat → Value := fun i j => if i < len ∧ j < sz then ((f i).2[j]?).getD (.bool false) else .bool false
      have hu : ∀ i j, i < len → j < sz → (f i).2[j]? = some (u i j) := fun i j hi hj => by
        have h2 : j < (f i).2.length := by rw [(hf i hi).1]; exact hj
        simp only [u, hi, hj, and_self, if_true, List.getElem?_eq_getElem h2, Option.getD_some]
      have key := Rep.sl (E := oldE W) (w := W) sz (((List.range len).map fun i => (f i).1).map g) .no (some a') cap u (by rw [hln]; exact hl) hmx ?_ ?_ ?_ trivial ?_ ?_
      · rw [hln] at key; exact key
      · rcases Nat.eq_zero_or_pos len with h0 | h0
        · left; subst h0; rfl
        · right
          have h1 := (hf 0 h0).2.1 0 hsz
          rw [hu 0 0 h0 hsz] at h1
          have hadd : a'.add (0 * sz + 0) = a' := by unfold Addr.add; simp
          rw [hadd] at h1
          have hp := addr_plain h1
          refine ⟨a'.block, a'.off, by rw [← hp], fun i e' j c hi hj => ?_⟩
          obtain ⟨hlt, rfl⟩ := hget i e' hi
          have hjs : j < sz := by
            have := (List.getElem?_eq_some_iff.1 hj).1
            rw [(hg _).1] at this; exact this
          have h2 := (hf i hlt).2.1 j hjs
          rw [hu i j hlt hjs, hp, addp] at h2
          have e : a'.off + i * sz + j = a'.off + (i * sz + j) := by omega
          refine ⟨cell_lt h1, by rw [e]; exact h2⟩
      · intro e' he
        obtain ⟨x, hx, rfl⟩ := List.mem_map.1 he
        exact (hg x).1
      · intro e' he
        obtain ⟨x, hx, rfl⟩ := List.mem_map.1 he
        exact (hg x).2
      · intro i e' j c hi hj
        obtain ⟨hlt, rfl⟩ := hget i e' hi
        have hjs : j < sz := by
          have := (List.getElem?_eq_some_iff.1 hj).1
          rw [(hg _).1] at this; exact this
        exact ((hf i hlt).2.2.2 j c (u i j) hj (hu i j hlt hjs)).1
      · intro i j
        by_cases hij : i < len ∧ j < sz
        · have hjs : j < (g (f i).1).cells.length := by rw [(hg _).1]; exact hij.2
          exact ((hf i hij.1).2.2.2 j _ (u i j) (List.getElem?_eq_getElem hjs) (hu i j hij.1 hij.2)).2
        · simp only [u, if_neg hij]; rfl
    · have hx1 := congrArg Prod.fst hx
      simp only at hx1
      refine ⟨_, _, hx1, by simp, fun i a x hi hxi => ?_⟩
      have hlt : i < len := by
        have := (List.getElem?_eq_some_iff.1 hi).1
        simpa using this
      simp [List.getElem?_range hlt] at hi hxi
      subst hi; subst hxi
      exact (hf i hlt).2.2.1

/-! cells that read so -/
def CellsAre (W : World) (l : List AV) (cs : List Value) : Prop :=
  l.length = cs.length ∧ ∀ (j : Nat) (c : AV) (u : Value), l[j]? = some c → cs[j]? = some u → Rep (oldE W) W c u ∧ u.oneCell' = true
theorem CellsAre.one {c : AV} {u : Value} (h : Rep (oldE W) W c u) (h1 : u.oneCell' = true) : CellsAre W [c] [u] := ⟨rfl, fun j c' u' hc hu => by
  match j, hc, hu with
  | 0, hc, hu => simp at hc hu; subst hc; subst hu; exact ⟨h, h1⟩⟩
theorem CellsAre.append {l r : List AV} {cs ds : List Value} (h : CellsAre W l cs) (k : CellsAre W r ds) : CellsAre W (l ++ r) (cs ++ ds) := by
  refine ⟨by simp [h.1, k.1], fun j c u hc hu => ?_⟩
  rcases Nat.lt_or_ge j l.length with hj | hj
  · rw [List.getElem?_append_left hj] at hc
    rw [List.getElem?_append_left (by rw [← h.1]; exact hj)] at hu
    exact h.2 j c u hc hu
  · rw [List.getElem?_append_right hj] at hc
    rw [List.getElem?_append_right (by rw [← h.1]; exact hj), ← h.1] at hu
    exact k.2 _ c u hc hu
/-- a struct's cells, field behind field -/
theorem CellsAre.next {l r : List AV} {cs : List Value} {o s p : Nat} (h : CellsAre W l ((cs.drop o).take s)) (hp : p = o + s) (k : CellsAre W r (cs.drop p)) : CellsAre W (l ++ r) (cs.drop o) := by
  subst hp
  have := h.append k
  rwa [← List.drop_drop, List.take_append_drop] at this
theorem CellsAre.last {l : List AV} {cs : List Value} {o s : Nat} (h : CellsAre W l ((cs.drop o).take s)) (hs : cs.length = o + s) : CellsAre W l (cs.drop o) := by
  rwa [List.take_of_length_le (by rw [List.length_drop]; omega)] at h
/-- what is read of a type -/
def ReadsAs (P : Program) (W : World) (enc : TypeId × Value → H) (t : TypeId) {α : Type} (g : α → List AV) (Q : α → Nat → Prop) : Prop :=
  ∀ n cs x, DataW.trod enc P W 0 (fun _ => true) true n t cs = some x → ∃ a : α, Q a (Rows.uptoBulk x.1) ∧ CellsAre W (g a) cs
theorem reads_str {t : TypeId} (ht : P.underlying t = some .string) : ReadsAs P W enc t (fun s : List UInt8 => [.str s]) (fun s n => s.length ≤ n) := by
  intro n cs x h
  obtain ⟨s, rfl, rfl, _⟩ := DataW.trod_string ht h
  exact ⟨s.data.toList, by simp [Rows.uptoBulk], .one (mk_str s) rfl⟩
theorem reads_int {t : TypeId} (ht : P.underlying t = some (.int .i64)) : ReadsAs P W enc t (fun n : Int => [.int .i64 n]) (fun n _ => -9223372036854775808 ≤ n ∧ n ≤ 9223372036854775807) := by
  intro n cs x h
  obtain ⟨k, rfl, _, hw⟩ := DataW.trod_int ht h
  have := int_rng hw
  exact ⟨k, ⟨this.1, by omega⟩, .one (.int _ _) rfl⟩
namespace Bulks
theorem one_le (d : DataW H) : 1 ≤ Rows.uptoBulk d := by
  cases d with
  | lit l => cases l <;> simp [Rows.uptoBulk]
  | nil => simp [Rows.uptoBulk]
  | ptr d => simp [Rows.uptoBulk]
  | slice elems spare => simp [Rows.uptoBulk]
  | agg parts => simp [Rows.uptoBulk]
  | iface t d => simp [Rows.uptoBulk]
  | map entries => simp [Rows.uptoBulk]
  | held h => simp [Rows.uptoBulk]
theorem part_le {d : DataW H} {l : List (DataW H)} (h : d ∈ l) : Rows.uptoBulk d ≤ Rows.uptoBulkAll l := by
  induction l with
  | nil => cases h
  | cons x r ih =>
    simp only [Rows.uptoBulkAll]
    cases List.mem_cons.1 h with
    | inl e => subst e; omega
    | inr e => have := ih e; omega
theorem length_le (l : List (DataW H)) : l.length ≤ Rows.uptoBulkAll l := by
  induction l with
  | nil => simp [Rows.uptoBulkAll]
  | cons x r ih => have := one_le x; simp only [Rows.uptoBulkAll, List.length_cons]; omega
theorem bound {l : List (DataW H)} (hk : Rows.uptoSmall H l = true) : Rows.uptoBulkAll l ≤ 1048576 := by
  simpa [Rows.uptoSmall] using hk
theorem field_le {xs : List (DataW H × List MemPlace)} {i : Nat} {y : DataW H × List MemPlace} (h : xs[i]? = some y) : Rows.uptoBulk y.1 ≤ Rows.uptoBulk (DataW.agg (xs.map (·.1))) := by
  have := part_le (List.mem_map_of_mem (f := fun y : DataW H × List MemPlace => y.1) (List.mem_of_getElem? h))
  simp only [Rows.uptoBulk]
  omega
end Bulks
theorem reads_slice {t e : TypeId} {sz : Nat} {α : Type} [Inhabited α] {g : α → AV} {Q : α → Nat → Prop} (ht : P.underlying t = some (.slice e)) (hc : P.cellsOf e = sz) (hsz : 0 < sz) (hg : ∀ a, (g a).cells.length = sz ∧ (g a).closed1 = true) (hel : ReadsAs P W enc e (fun a => (g a).cells) Q)
    (hQ : ∀ a n m, Q a n → n ≤ m → Q a m) : ReadsAs P W enc t (fun l : List α => [.sl sz (l.map g) .no]) (fun l n => l.length ≤ n ∧ ∀ a ∈ l, Q a n) := by
  intro n cs x h
  have hs : ∃ A len cap, cs = [.slice A len cap] := by
    rcases open_slice ht h with ⟨hcs, _⟩ | ⟨a', len', cap', m, n, D, Pl, hcs, _⟩
    · exact ⟨_, _, _, hcs⟩
    · exact ⟨_, _, _, hcs⟩
  obtain ⟨A, len, cap, rfl⟩ := hs
  have hel' : ElemR P W enc e g (fun a d => Q a (Rows.uptoBulk d)) := fun n cs x h => by
    obtain ⟨a, h1, h2⟩ := hel n cs x h
    exact ⟨a, h1, h2.2⟩
  obtain ⟨l, hl, hb⟩ := open_slR ht hc hsz hg hel' ⟨A, len, cap, rfl⟩ (d := x.1) (ps := x.2) ⟨n, by simpa [Value.cells] using h⟩
  refine ⟨l, ?_, .one hl rfl⟩
  rcases hb with rfl | ⟨elems, spare, he, hlen, hq⟩
  · exact ⟨Nat.zero_le _, fun a ha => by cases ha⟩
  · rw [he]
    have hE : Rows.uptoBulk (DataW.slice elems spare) = Rows.uptoBulkAll elems + Rows.uptoBulkAll spare + 1 := by simp only [Rows.uptoBulk]
    rw [hE]
    refine ⟨by have := Bulks.length_le elems; omega, fun a ha => ?_⟩
    obtain ⟨i, hi⟩ := List.mem_iff_getElem?.1 ha
    have hlt : i < elems.length := by rw [hlen]; exact (List.getElem?_eq_some_iff.1 hi).1
    have hx := List.getElem?_eq_getElem hlt
    refine hQ a _ _ (hq i a _ hi hx) ?_
    have := Bulks.part_le (List.mem_of_getElem? hx)
    omega
/-! cells of any type -/
end
end Go.Abs

namespace Go.Abs
open Go.ChangeShapes Go.WideShapes Go.ChangeAt Go.RowKit Go.Deep Go.ChangeMaps
open Go.Proofs Go.Proofs.YtdajfgkcpflacaaGreat
section
variable {H : Type} {enc : TypeId × Value → H} {P : Program} {W : World}
theorem fieldR {t : TypeId} {α : Type} {g : α → List AV} {Q : α → Nat → Prop} (hr : ReadsAs P W enc t g Q) (hQ : ∀ a n m, Q a n → n ≤ m → Q a m) {fs : Array Field} {xs : List (DataW H × List MemPlace)} {n : Nat} {cs : List Value} {x : DataW H × List MemPlace}
    (hx : x = (.agg (xs.map (·.1)), xs.flatMap (·.2))) (hxl : xs.length = fs.size)
    (hf : ∀ (i : Nat) (f : Field), fs[i]? = some f → DataW.trod enc P W 0 (fun _ => true) true n f.type ((cs.drop f.offset).take (P.cellsOf f.type)) = xs[i]?)
    (i : Nat) {f : Field} (hi : fs[i]? = some f) (ht : f.type = t) {o s : Nat} (ho : f.offset = o) (hs : P.cellsOf t = s) : ∃ a, Q a (Rows.uptoBulk x.1) ∧ CellsAre W (g a) ((cs.drop o).take s) := by
  have h := hf i f hi
  rw [ht, ho, hs] at h
  have hil : i < xs.length := by rw [hxl]; exact (Array.getElem?_eq_some_iff.1 hi).1
  have hg := List.getElem?_eq_getElem hil
  rw [hg] at h
  obtain ⟨a, h1, h2⟩ := hr n _ _ h
  refine ⟨a, hQ a _ _ h1 ?_, h2⟩
  rw [hx]
  exact Bulks.field_le hg
theorem ReadsAs.map {t : TypeId} {α β : Type} {g : α → List AV} {g' : β → List AV} {Q : α → Nat → Prop} {Q' : β → Nat → Prop} (h : ReadsAs P W enc t g Q) (f : α → β) (hg : ∀ a, g a = g' (f a)) (hQ : ∀ a n, Q a n → Q' (f a) n) : ReadsAs P W enc t g' Q' := fun n cs x hx => by
  obtain ⟨a, h1, h2⟩ := h n cs x hx
  exact ⟨f a, hQ a _ h1, by rw [← hg]; exact h2⟩
end
section
variable {H : Type} {enc : TypeId × Value → H} {W : World}
theorem cz3 : PA.cellsOf 3 = 1 := by kernel_rfl
theorem cz9 : PA.cellsOf 9 = 1 := by kernel_rfl
theorem cz29 : PA.cellsOf 26 = 3 := by kernel_rfl
theorem cz31 : PA.cellsOf 49 = 2 := by kernel_rfl
theorem cz33 : PA.cellsOf 51 = 6 := by kernel_rfl
theorem st29 : ∃ f0 f1 f2 : Field, PA.underlying 26 = some (.struct #[f0, f1, f2]) ∧ (f0.type = 3 ∧ f0.offset = 0) ∧ (f1.type = 3 ∧ f1.offset = 1) ∧ (f2.type = 9 ∧ f2.offset = 2) := ⟨_, _, _, Tryz.underlying26, ⟨rfl, rfl⟩, ⟨rfl, rfl⟩, ⟨rfl, rfl⟩⟩
theorem st31 : ∃ f0 f1 : Field, PA.underlying 49 = some (.struct #[f0, f1]) ∧ (f0.type = 9 ∧ f0.offset = 0) ∧ (f1.type = 3 ∧ f1.offset = 1) := ⟨_, _, Tryz.underlying49, ⟨rfl, rfl⟩, ⟨rfl, rfl⟩⟩
theorem st33 : ∃ f0 f1 f2 : Field, PA.underlying 51 = some (.struct #[f0, f1, f2]) ∧ (f0.type = 26 ∧ f0.offset = 0) ∧ (f1.type = 49 ∧ f1.offset = 3) ∧ (f2.type = 3 ∧ f2.offset = 5) := ⟨_, _, _, Tryz.underlying51, ⟨rfl, rfl⟩, ⟨rfl, rfl⟩, ⟨rfl, rfl⟩⟩
def rngI (n : Int) : Prop := -9223372036854775808 ≤ n ∧ n ≤ 9223372036854775807
theorem rng_ok {n : Int} (h : rngI n) : iOk n := by unfold rngI at h; unfold iOk; omega
theorem rStr : ReadsAs PA W enc 9 (fun s : List UInt8 => [.str s]) (fun _ _ => True) := fun n cs x h => by
  obtain ⟨a, _, h2⟩ := reads_str Tryz.underlying9 n cs x h
  exact ⟨a, trivial, h2⟩
theorem rInt : ReadsAs PA W enc 3 (fun n : Int => [.int .i64 n]) (fun n _ => rngI n) := reads_int Tryz.underlying3
theorem rVal : ReadsAs PA W enc 26 (fun v : Int × Int × List UInt8 => [.int .i64 v.1, .int .i64 v.2.1, .str v.2.2]) (fun v _ => rngI v.1 ∧ rngI v.2.1) := by
  intro n cs x h
  obtain ⟨f0, f1, f2, hu, ⟨t0, o0⟩, ⟨t1, o1⟩, ⟨t2, o2⟩⟩ := st29
  obtain ⟨xs, m, _, hx, hlen, hxl, hf⟩ := DataW.trod_struct hu h
  obtain ⟨a0, q0, c0⟩ := fieldR rInt (fun _ _ _ h _ => h) hx hxl hf 0 rfl t0 o0 cz3
  obtain ⟨a1, q1, c1⟩ := fieldR rInt (fun _ _ _ h _ => h) hx hxl hf 1 rfl t1 o1 cz3
  obtain ⟨a2, q2, c2⟩ := fieldR rStr (fun _ _ _ h _ => h) hx hxl hf 2 rfl t2 o2 cz9
  exact ⟨(a0, a1, a2), ⟨q0, q1⟩, c0.next rfl (c1.next rfl (c2.last (by rw [hlen]; exact cz29)))⟩
theorem rMark : ReadsAs PA W enc 49 (fun p : List UInt8 × Int => [.str p.1, .int .i64 p.2]) (fun p _ => rngI p.2) := by
  intro n cs x h
  obtain ⟨f0, f1, hu, ⟨t0, o0⟩, ⟨t1, o1⟩⟩ := st31
  obtain ⟨xs, m, _, hx, hlen, hxl, hf⟩ := DataW.trod_struct hu h
  obtain ⟨a0, q0, c0⟩ := fieldR rStr (fun _ _ _ h _ => h) hx hxl hf 0 rfl t0 o0 cz9
  obtain ⟨a1, q1, c1⟩ := fieldR rInt (fun _ _ _ h _ => h) hx hxl hf 1 rfl t1 o1 cz3
  exact ⟨(a0, a1), q1, c0.next rfl (c1.last (by rw [hlen]; exact cz31))⟩
def itQ (x : ItI) (_ : Nat) : Prop := rngI x.k ∧ rngI x.n ∧ rngI x.q ∧ rngI x.c
theorem rItem : ReadsAs PA W enc 51 (fun x : ItI => (itA x).cells) itQ := by
  intro n cs x h
  obtain ⟨f0, f1, f2, hu, ⟨t0, o0⟩, ⟨t1, o1⟩, ⟨t2, o2⟩⟩ := st33
  obtain ⟨xs, m, _, hx, hlen, hxl, hf⟩ := DataW.trod_struct hu h
  obtain ⟨a0, q0, c0⟩ := fieldR rVal (fun _ _ _ h _ => h) hx hxl hf 0 rfl t0 o0 cz29
  obtain ⟨a1, q1, c1⟩ := fieldR rMark (fun _ _ _ h _ => h) hx hxl hf 1 rfl t1 o1 cz31
  obtain ⟨a2, q2, c2⟩ := fieldR rInt (fun _ _ _ h _ => h) hx hxl hf 2 rfl t2 o2 cz3
  exact ⟨⟨a0.1, a0.2.1, a0.2.2, a1.1, a1.2, a2⟩, ⟨q0.1, q0.2, q1, q2⟩, c0.next rfl (c1.next rfl (c2.last (by rw [hlen]; exact cz33)))⟩
instance : Inhabited ItI := ⟨⟨0, 0, [], [], 0, 0⟩⟩
def itsQ (l : List ItI) : Prop := l.length ≤ maxLen ∧ ∀ x ∈ l, itQ x 0
theorem rep_len2 {E : Env} {w : World} {sz : Nat} {es : List AV} {o : Own} {v : Value} (h : Rep E w (.sl sz es o) v) : es.length ≤ maxLen := by
  cases h with
  | sl _ _ _ A cap u hcap hmax => exact Nat.le_trans hcap hmax
theorem cells_len {sz : Nat} {es : List AV} {o : Own} {cs : List Value} (h : CellsAre W [.sl sz es o] cs) : es.length ≤ maxLen := by
  match cs, h with
  | [u], h => exact rep_len2 (h.2 0 _ u rfl rfl).1
  | [], h => cases h.1
theorem itsQ_ok {l : List ItI} (h : itsQ l) : l.length ≤ maxLen ∧ ∀ x ∈ l, itOk x := ⟨h.1, fun x hx => ⟨rng_ok (h.2 x hx).2.1, rng_ok (h.2 x hx).2.2.2⟩⟩
theorem rItems : ReadsAs PA W enc 22 (fun l : List ItI => [.sl 6 (itsL l) .no]) (fun l _ => itsQ l) := fun n cs x h => by
  obtain ⟨l, h1, h2⟩ := reads_slice (g := itA) Tryz.underlying22 cz33 (by omega) (fun _ => ⟨rfl, rfl⟩) rItem (fun _ _ _ h _ => h) n cs x h
  have hl := cells_len h2
  rw [List.length_map] at hl
  exact ⟨l, ⟨hl, h1.2⟩, h2⟩
/-! arguments -/
/-- an argument of one cell -/
theorem open_one {t : TypeId} {α : Type} {g : α → AV} {Q : α → Nat → Prop} (hr : ReadsAs PA W enc t (fun a => [g a]) Q) {v : Value} {d : DataW H} {ps : List MemPlace} (h1 : ∃ u, v.cells = #[u] ∧ v = u) (h : DataW.Trod enc PA W 0 (fun _ => true) true t v d ps) : ∃ a, Rep (oldE W) W (g a) v ∧ Q a (Rows.uptoBulk d) := by
  obtain ⟨u, hu, rfl⟩ := h1
  obtain ⟨fuel, h⟩ := h
  rw [hu] at h
  obtain ⟨a, q, c⟩ := hr fuel _ _ h
  exact ⟨a, (c.2 0 _ _ rfl rfl).1, q⟩
end
end Go.Abs

namespace Go.Abs
open Go.ChangeShapes Go.WideShapes Go.ChangeAt Go.RowKit Go.Deep Go.ChangeMaps
open Go.Proofs Go.Proofs.YtdajfgkcpflacaaGreat
section
variable {W : World}
theorem globI : GlobOk GA (oldE W) W := globA (fun g e hg => by cases hg) fun g e hg => by cases hg
end
theorem one_slice {P : Program} {W : World} {t e : TypeId} {v : Value} {b : Nat} (ht : P.underlying t = some (.slice e)) (h : Value.okWide P W .any b t v) : ∃ u, v.cells = #[u] ∧ v = u := by
  obtain ⟨A, n, c, rfl⟩ := okWide_slice ht h
  exact ⟨_, rfl, rfl⟩
theorem one_int {P : Program} {W : World} {t : TypeId} {k : IntKind} {v : Value} {b : Nat} (ht : P.underlying t = some (.int k)) (h : Value.okWide P W .any b t v) : ∃ u, v.cells = #[u] ∧ v = u := by
  obtain ⟨n, rfl⟩ := okWide_int ht h
  exact ⟨_, rfl, rfl⟩
theorem witness_row_shaped {H : Type} {enc : TypeId × Value → H} {C : Checked} {os : Os} {f : FuncId} {fn : Func} {s : OpenSpec} {conds : List PathCond} {apart : Bool} {laid : List (String × DataW Unit)} (w0 : World) (args : Array Value) (hos : w0.os = os)
    (hsh : (w0.forCall (fun _ _ => 0) ⟨#[], args, []⟩).Shaped C.prog)
    (hok : Input.okWideB C.prog (w0.forCall (fun _ _ => 0) ⟨#[], args, []⟩) f ⟨#[], args, []⟩ = true)
    (hrow : s.preRow enc C.prog fn conds apart laid (w0.forCall (fun _ _ => 0) ⟨#[], args, []⟩).memory args) :
    ∃ (w : World) (tape : Tape) (i : Input), w.os = os ∧ (w.forCall tape i).Shaped C.prog ∧ i.vars = [] ∧ Input.okWide C.prog (w.forCall tape i) .any w.heap.size f i ∧
      s.preRow enc C.prog fn conds apart laid (w.forCall tape i).memory i.args ∧ ({} : Assume).holds C.prog (lone (Frame.enter C.prog f i.args .normal) [] (w.forCall tape i)) :=
  ⟨w0, fun _ _ => 0, ⟨#[], args, []⟩, hos, hsh, (Input.okWide_of_okWideB (base := 0) hok).1, (Input.okWide_of_okWideB hok).2, hrow, by
    simp only [Assume.holds]
    exact ⟨by simp, by simp, fun _ => Modest.zero, by simp, by simp⟩⟩

end Go.Abs

namespace Go.Abs
open Go.Proofs Go.Proofs.K17 Go.Proofs.D17 Go.RowKit
def smI (x : ItI) : Bool := decide (x.s.length ≤ 100) && decide (x.src.length ≤ 100)
def smallP (l : List ItI) : Bool := l.all smI && decide (l.length ≤ 40)
def v21 : Spec := fun args => match args with
  | [.sl sz es _] => match unL unI es with
    | some l => if (sz = 6 ∨ l = []) ∧ l.length ≤ maxLen then some (.bool (smallP l), []) else none
    | none => none
  | _ => none
def nuI (kind : Int) (x : ItI) : Bool := x.c == 1 && x.k == kind && decide (ckP x.k x.n x.s = 0)
def nuP (kind : Int) (l : List ItI) : Bool := l.all (nuI kind) && smallP l && (kind == 2 || kind == 3)
def v8 : Spec := fun args => match args with
  | [.int .i64 kind, .sl sz es _] => match unL unI es with
    | some l => if (sz = 6 ∨ l = []) ∧ l.length ≤ maxLen then some (.bool (nuP kind l), []) else none
    | none => none
  | _ => none
def okI (x : ItI) : Prop := itOk x ∧ iOk x.k ∧ x.s.length ≤ 100
instance (x : ItI) : Decidable (okI x) := inferInstanceAs (Decidable (_ ∧ _ ∧ _))
/-- the number with this rank -/
def lessN (l : List ItI) (n : Int) : Nat := (l.filter fun y => decide (y.n < n)).length
def sameN (l : List ItI) (n : Int) : Nat := (l.filter fun y => decide (y.n = n)).length
def rankI (l : List ItI) (r : Int) (x : ItI) : Bool := decide ((lessN l x.n : Int) < r) && decide (r ≤ lessN l x.n + sameN l x.n)
def rankP (l : List ItI) (r : Int) : Int := match l.find? (rankI l r) with
  | some x => x.n
  | none => 0
def v11 : Spec := fun args => match args with
  | [.sl sz es _, .int .i64 r] => match unL unI es with
    | some l => if (sz = 6 ∨ l = []) ∧ l.length ≤ 1000 then some (.int .i64 (rankP l r), []) else none
    | none => none
  | _ => none
def a21 (l : List ItI) : Anns := ⟨fun k => if k = 2 then some { α := Nat, slots := [0, 3], nb := 0, vals := fun i => [.sl 6 (itsL l) .no, .int .i64 i], sS := fun _ => ⟨[], []⟩, I := fun i => i ≤ l.length ∧ (l.take i).all smI = true, μ := fun i => l.length - i } else none, nA⟩
def a8z (kind : Int) (l : List ItI) : Anns := ⟨fun k => if k = 2 then some { α := Nat, slots := [0, 1, 5], nb := 0, vals := fun i => [.int .i64 kind, .sl 6 (itsL l) .no, .int .i64 i], sS := fun _ => ⟨[], []⟩, I := fun i => i ≤ l.length ∧ (l.take i).all (nuI kind) = true, μ := fun i => l.length - i } else none, nA⟩
def a11z (l : List ItI) (r : Int) : Anns := ⟨fun k => if k = 2 then some { α := Nat, slots := [0, 1, 5], nb := 0, vals := fun i => [.sl 6 (itsL l) .no, .int .i64 r, .int .i64 i], sS := fun _ => ⟨[], []⟩, I := fun i => i ≤ l.length ∧ ∀ x ∈ l.take i, rankI l r x = false, μ := fun i => l.length - i }
  else if k = 6 then some { α := Nat × ItI × Nat, slots := [0, 1, 5, 6, 7, 8], nb := 0, vals := fun p => [.sl 6 (itsL l) .no, .int .i64 r, .int .i64 p.1, .int .i64 (lessN (l.take p.2.2) p.2.1.n), .int .i64 (sameN (l.take p.2.2) p.2.1.n), .int .i64 p.2.2], sS := fun _ => ⟨[], []⟩, I := fun p => l[p.1]? = some p.2.1 ∧ p.2.2 ≤ l.length, μ := fun p => l.length - p.2.2, link := some fun T p => T[5]? = some (.int .i64 p.1) } else none, nA⟩
def XU : Shapes := fun f => match f with
  | 7 => some (.val (.one (.is (.bool true))), none)
  | 12 | 21 | 8 => some shB
  | 33 | 36 | 13 | 9 => some shV
  | 10 => some shSt
  | 11 | 35 => some shI
  | 2000026 => some shV
  | f => XN f
end Go.Abs

namespace Go.Abs
open Go.Proofs Go.Proofs.K17 Go.Proofs.D17 Go.RowKit
theorem y21 (l : List ItI) (r : AV) : (pureW PA GA XU (tbl []) (itbl []) (a21 l) [] 21 [.sl 6 (itsL l) .no] (r, [])) =
((∃ (y : Nat),
    ValsAre [AV.sl ((6 : Nat)) (itsL l) Own.no, AV.int IntKind.i64 (0 : Int)] [AV.sl ((6 : Nat)) (itsL l) Own.no, AV.int IntKind.i64 (↑y : Int)] ∧
      StIs { boxes := [], live := [] } { boxes := [], live := [] } ∧ (y ≤ l.length ∧ (List.take y l).all smI = true) ∧ True) ∧
  ∀ (x : Nat),
    x ≤ l.length ∧ (List.take x l).all smI = true →
      (decide ((↑x : Int) < (↑(itsL l).length : Int)) = true →
 ((0 : Int) ≤ (↑x : Int) ∧ (↑x : Int) < (↑(itsL l).length : Int)) ∧
 ∃ (s : List UInt8),
 takeAt PA ((9 : Nat)) (itsL l) (↑x : Int).toNat ((2 : Nat)) = some (AV.str s) ∧
 (decide ((↑s.length : Int) > (100 : Int)) = true → RetIs (AV.bool false) [] (r, [])) ∧
 (decide ((↑s.length : Int) > (100 : Int)) = false →
 ((0 : Int) ≤ (↑x : Int) ∧ (↑x : Int) < (↑(itsL l).length : Int)) ∧
 ∃ (s : List UInt8),
 takeAt PA ((9 : Nat)) (itsL l) (↑x : Int).toNat ((3 : Nat)) = some (AV.str s) ∧
 (decide ((↑s.length : Int) > (100 : Int)) = true → RetIs (AV.bool false) [] (r, [])) ∧
 (decide ((↑s.length : Int) > (100 : Int)) = false →
 ∃ (y : Nat),
 ValsAre [AV.sl ((6 : Nat)) (itsL l) Own.no, AV.int IntKind.i64 (IntKind.i64.wrap ((↑x : Int) + (1 : Int)))]
 [AV.sl ((6 : Nat)) (itsL l) Own.no, AV.int IntKind.i64 (↑y : Int)] ∧
 StIs { boxes := [], live := [] } { boxes := [], live := [] } ∧
 (y ≤ l.length ∧ (List.take y l).all smI = true) ∧ l.length - y < l.length - x))) ∧
        (decide ((↑x : Int) < (↑(itsL l).length : Int)) = false →
 (decide ((↑(itsL l).length : Int) ≤ (40 : Int)) = true → RetIs (AV.bool true) [] (r, [])) ∧
 (decide ((↑(itsL l).length : Int) ≤ (40 : Int)) = false → RetIs (AV.bool false) [] (r, [])))) := by kernel_rfl
theorem y8 (kind : Int) (l : List ItI) (r : AV) : (pureW PA GA XU (tbl [(12, v12), (21, v21)]) (itbl []) (a8z kind l) [] 8 [.int .i64 kind, .sl 6 (itsL l) .no] (r, [])) =
((∃ (y : Nat),
    ValsAre [AV.int IntKind.i64 kind, AV.sl ((6 : Nat)) (itsL l) Own.no, AV.int IntKind.i64 (0 : Int)]
        [AV.int IntKind.i64 kind, AV.sl ((6 : Nat)) (itsL l) Own.no, AV.int IntKind.i64 (↑y : Int)] ∧
      StIs { boxes := [], live := [] } { boxes := [], live := [] } ∧ (y ≤ l.length ∧ (List.take y l).all (nuI kind) = true) ∧ True) ∧
  ∀ (x : Nat),
    x ≤ l.length ∧ (List.take x l).all (nuI kind) = true →
      (decide ((↑x : Int) < (↑(itsL l).length : Int)) = true →
 ((0 : Int) ≤ (↑x : Int) ∧ (↑x : Int) < (↑(itsL l).length : Int)) ∧
 ∃ (n : Int),
 takeAt PA ((3 : Nat)) (itsL l) (↑x : Int).toNat ((5 : Nat)) = some (AV.int IntKind.i64 n) ∧
 ((n != (1 : Int)) = true → RetIs (AV.bool false) [] (r, [])) ∧
 ((n != (1 : Int)) = false →
 ((0 : Int) ≤ (↑x : Int) ∧ (↑x : Int) < (↑(itsL l).length : Int)) ∧
 ∃ (n : Int),
 takeAt PA ((3 : Nat)) (itsL l) (↑x : Int).toNat ((0 : Nat)) = some (AV.int IntKind.i64 n) ∧
 ((n != kind) = true → RetIs (AV.bool false) [] (r, [])) ∧
 ((n != kind) = false →
 ((0 : Int) ≤ (↑x : Int) ∧ (↑x : Int) < (↑(itsL l).length : Int)) ∧
 ∃ (n : Int),
 ∃ (n_1 : Int),
 ∃ (s : List UInt8),
 takeAt PA ((26 : Nat)) (itsL l) (↑x : Int).toNat ((0 : Nat)) =
 some (AV.agg [AV.int IntKind.i64 n, AV.int IntKind.i64 n_1, AV.str s]) ∧
 ∃ (b : Bool),
 CallIs (some (AV.bool (decide (ckP n n_1 s = (0 : Int))), [])) (AV.bool b) [] ∧
 (b = true →
 ∃ (y : Nat),
 ValsAre
 [AV.int IntKind.i64 kind, AV.sl ((6 : Nat)) (itsL l) Own.no,
 AV.int IntKind.i64 (IntKind.i64.wrap ((↑x : Int) + (1 : Int)))]
 [AV.int IntKind.i64 kind, AV.sl ((6 : Nat)) (itsL l) Own.no, AV.int IntKind.i64 (↑y : Int)] ∧
 StIs { boxes := [], live := [] } { boxes := [], live := [] } ∧
 (y ≤ l.length ∧ (List.take y l).all (nuI kind) = true) ∧ l.length - y < l.length - x) ∧
 (b = false → RetIs (AV.bool false) [] (r, []))))) ∧
        (decide ((↑x : Int) < (↑(itsL l).length : Int)) = false →
 ∃ (b : Bool),
 CallIs (tbl [((12 : Nat), v12), ((21 : Nat), v21)] ((21 : Nat)) [AV.sl ((6 : Nat)) (itsL l) Own.no]) (AV.bool b) [] ∧
 (b = true →
 ((kind == (2 : Int)) = true → RetIs (AV.bool true) [] (r, [])) ∧
 ((kind == (2 : Int)) = false →
 ((kind == (3 : Int)) = true → RetIs (AV.bool true) [] (r, [])) ∧ ((kind == (3 : Int)) = false → RetIs (AV.bool false) [] (r, [])))) ∧
 (b = false → RetIs (AV.bool false) [] (r, [])))) := by kernel_rfl
theorem y11 (l : List ItI) (q : Int) (r : AV) : (pureW PA GA XU (tbl []) (itbl []) (a11z l q) [] 11 [.sl 6 (itsL l) .no, .int .i64 q] (r, [])) =
((∃ (y : Nat),
    ValsAre [AV.sl ((6 : Nat)) (itsL l) Own.no, AV.int IntKind.i64 q, AV.int IntKind.i64 (0 : Int)]
        [AV.sl ((6 : Nat)) (itsL l) Own.no, AV.int IntKind.i64 q, AV.int IntKind.i64 (↑y : Int)] ∧
      StIs { boxes := [], live := [] } { boxes := [], live := [] } ∧ (y ≤ l.length ∧ ∀ (x : ItI), x ∈ List.take y l → rankI l q x = false) ∧ True) ∧
  ∀ (x : Nat),
    (x ≤ l.length ∧ ∀ (x_1 : ItI), x_1 ∈ List.take x l → rankI l q x_1 = false) →
      (decide ((↑x : Int) < (↑(itsL l).length : Int)) = true →
 (∃ (y : Nat × ItI × Nat),
 ValsAre
 [AV.sl ((6 : Nat)) (itsL l) Own.no, AV.int IntKind.i64 q, AV.int IntKind.i64 (↑x : Int), AV.int IntKind.i64 (0 : Int),
 AV.int IntKind.i64 (0 : Int), AV.int IntKind.i64 (0 : Int)]
 [AV.sl ((6 : Nat)) (itsL l) Own.no, AV.int IntKind.i64 q, AV.int IntKind.i64 (↑y.fst : Int),
 AV.int IntKind.i64 (↑(lessN (List.take y.snd.snd l) y.snd.fst.n) : Int),
 AV.int IntKind.i64 (↑(sameN (List.take y.snd.snd l) y.snd.fst.n) : Int), AV.int IntKind.i64 (↑y.snd.snd : Int)] ∧
 StIs { boxes := [], live := [] } { boxes := [], live := [] } ∧
 (l[y.fst]? = some y.snd.fst ∧ y.snd.snd ≤ l.length) ∧ some (AV.int IntKind.i64 (↑x : Int)) = some (AV.int IntKind.i64 (↑y.fst : Int))) ∧
 ∀ (x_1 : Nat × ItI × Nat),
 l[x_1.fst]? = some x_1.snd.fst ∧ x_1.snd.snd ≤ l.length →
 some (AV.int IntKind.i64 (↑x : Int)) = some (AV.int IntKind.i64 (↑x_1.fst : Int)) →
 (decide ((↑x_1.snd.snd : Int) < (↑(itsL l).length : Int)) = true →
 ((0 : Int) ≤ (↑x_1.snd.snd : Int) ∧ (↑x_1.snd.snd : Int) < (↑(itsL l).length : Int)) ∧
 ∃ (n : Int),
 takeAt PA ((3 : Nat)) (itsL l) (↑x_1.snd.snd : Int).toNat ((1 : Nat)) = some (AV.int IntKind.i64 n) ∧
 ((0 : Int) ≤ (↑x_1.fst : Int) ∧ (↑x_1.fst : Int) < (↑(itsL l).length : Int)) ∧
 ∃ (n_1 : Int),
 takeAt PA ((3 : Nat)) (itsL l) (↑x_1.fst : Int).toNat ((1 : Nat)) = some (AV.int IntKind.i64 n_1) ∧
 (decide (n < n_1) = true →
 ((0 : Int) ≤ (↑x_1.snd.snd : Int) ∧ (↑x_1.snd.snd : Int) < (↑(itsL l).length : Int)) ∧
 ∃ (n : Int),
 takeAt PA ((3 : Nat)) (itsL l) (↑x_1.snd.snd : Int).toNat ((1 : Nat)) = some (AV.int IntKind.i64 n) ∧
 ((0 : Int) ≤ (↑x_1.fst : Int) ∧ (↑x_1.fst : Int) < (↑(itsL l).length : Int)) ∧
 ∃ (n_2 : Int),
 takeAt PA ((3 : Nat)) (itsL l) (↑x_1.fst : Int).toNat ((1 : Nat)) = some (AV.int IntKind.i64 n_2) ∧
 ((n == n_2) = true →
 ∃ (y : Nat × ItI × Nat),
 ValsAre
 [AV.sl ((6 : Nat)) (itsL l) Own.no, AV.int IntKind.i64 q, AV.int IntKind.i64 (↑x_1.fst : Int),
 AV.int IntKind.i64
 (IntKind.i64.wrap ((↑(lessN (List.take x_1.snd.snd l) x_1.snd.fst.n) : Int) + (1 : Int))),
 AV.int IntKind.i64
 (IntKind.i64.wrap ((↑(sameN (List.take x_1.snd.snd l) x_1.snd.fst.n) : Int) + (1 : Int))),
 AV.int IntKind.i64 (IntKind.i64.wrap ((↑x_1.snd.snd : Int) + (1 : Int)))]
 [AV.sl ((6 : Nat)) (itsL l) Own.no, AV.int IntKind.i64 q, AV.int IntKind.i64 (↑y.fst : Int),
 AV.int IntKind.i64 (↑(lessN (List.take y.snd.snd l) y.snd.fst.n) : Int),
 AV.int IntKind.i64 (↑(sameN (List.take y.snd.snd l) y.snd.fst.n) : Int),
 AV.int IntKind.i64 (↑y.snd.snd : Int)] ∧
 StIs { boxes := [], live := [] } { boxes := [], live := [] } ∧
 (l[y.fst]? = some y.snd.fst ∧ y.snd.snd ≤ l.length) ∧
 some (AV.int IntKind.i64 (↑x : Int)) = some (AV.int IntKind.i64 (↑y.fst : Int)) ∧
 l.length - y.snd.snd < l.length - x_1.snd.snd) ∧
 ((n == n_2) = false →
 ∃ (y : Nat × ItI × Nat),
 ValsAre
 [AV.sl ((6 : Nat)) (itsL l) Own.no, AV.int IntKind.i64 q, AV.int IntKind.i64 (↑x_1.fst : Int),
 AV.int IntKind.i64
 (IntKind.i64.wrap ((↑(lessN (List.take x_1.snd.snd l) x_1.snd.fst.n) : Int) + (1 : Int))),
 AV.int IntKind.i64 (↑(sameN (List.take x_1.snd.snd l) x_1.snd.fst.n) : Int),
 AV.int IntKind.i64 (IntKind.i64.wrap ((↑x_1.snd.snd : Int) + (1 : Int)))]
 [AV.sl ((6 : Nat)) (itsL l) Own.no, AV.int IntKind.i64 q, AV.int IntKind.i64 (↑y.fst : Int),
 AV.int IntKind.i64 (↑(lessN (List.take y.snd.snd l) y.snd.fst.n) : Int),
 AV.int IntKind.i64 (↑(sameN (List.take y.snd.snd l) y.snd.fst.n) : Int),
 AV.int IntKind.i64 (↑y.snd.snd : Int)] ∧
 StIs { boxes := [], live := [] } { boxes := [], live := [] } ∧
 (l[y.fst]? = some y.snd.fst ∧ y.snd.snd ≤ l.length) ∧
 some (AV.int IntKind.i64 (↑x : Int)) = some (AV.int IntKind.i64 (↑y.fst : Int)) ∧
 l.length - y.snd.snd < l.length - x_1.snd.snd)) ∧
 (decide (n < n_1) = false →
 ((0 : Int) ≤ (↑x_1.snd.snd : Int) ∧ (↑x_1.snd.snd : Int) < (↑(itsL l).length : Int)) ∧
 ∃ (n : Int),
 takeAt PA ((3 : Nat)) (itsL l) (↑x_1.snd.snd : Int).toNat ((1 : Nat)) = some (AV.int IntKind.i64 n) ∧
 ((0 : Int) ≤ (↑x_1.fst : Int) ∧ (↑x_1.fst : Int) < (↑(itsL l).length : Int)) ∧
 ∃ (n_2 : Int),
 takeAt PA ((3 : Nat)) (itsL l) (↑x_1.fst : Int).toNat ((1 : Nat)) = some (AV.int IntKind.i64 n_2) ∧
 ((n == n_2) = true →
 ∃ (y : Nat × ItI × Nat),
 ValsAre
 [AV.sl ((6 : Nat)) (itsL l) Own.no, AV.int IntKind.i64 q, AV.int IntKind.i64 (↑x_1.fst : Int),
 AV.int IntKind.i64 (↑(lessN (List.take x_1.snd.snd l) x_1.snd.fst.n) : Int),
 AV.int IntKind.i64
 (IntKind.i64.wrap ((↑(sameN (List.take x_1.snd.snd l) x_1.snd.fst.n) : Int) + (1 : Int))),
 AV.int IntKind.i64 (IntKind.i64.wrap ((↑x_1.snd.snd : Int) + (1 : Int)))]
 [AV.sl ((6 : Nat)) (itsL l) Own.no, AV.int IntKind.i64 q, AV.int IntKind.i64 (↑y.fst : Int),
 AV.int IntKind.i64 (↑(lessN (List.take y.snd.snd l) y.snd.fst.n) : Int),
 AV.int IntKind.i64 (↑(sameN (List.take y.snd.snd l) y.snd.fst.n) : Int),
 AV.int IntKind.i64 (↑y.snd.snd : Int)] ∧
 StIs { boxes := [], live := [] } { boxes := [], live := [] } ∧
 (l[y.fst]? = some y.snd.fst ∧ y.snd.snd ≤ l.length) ∧
 some (AV.int IntKind.i64 (↑x : Int)) = some (AV.int IntKind.i64 (↑y.fst : Int)) ∧
 l.length - y.snd.snd < l.length - x_1.snd.snd) ∧
 ((n == n_2) = false →
 ∃ (y : Nat × ItI × Nat),
 ValsAre
 [AV.sl ((6 : Nat)) (itsL l) Own.no, AV.int IntKind.i64 q, AV.int IntKind.i64 (↑x_1.fst : Int),
 AV.int IntKind.i64 (↑(lessN (List.take x_1.snd.snd l) x_1.snd.fst.n) : Int),
 AV.int IntKind.i64 (↑(sameN (List.take x_1.snd.snd l) x_1.snd.fst.n) : Int),
 AV.int IntKind.i64 (IntKind.i64.wrap ((↑x_1.snd.snd : Int) + (1 : Int)))]
 [AV.sl ((6 : Nat)) (itsL l) Own.no, AV.int IntKind.i64 q, AV.int IntKind.i64 (↑y.fst : Int),
 AV.int IntKind.i64 (↑(lessN (List.take y.snd.snd l) y.snd.fst.n) : Int),
 AV.int IntKind.i64 (↑(sameN (List.take y.snd.snd l) y.snd.fst.n) : Int),
 AV.int IntKind.i64 (↑y.snd.snd : Int)] ∧
 StIs { boxes := [], live := [] } { boxes := [], live := [] } ∧
 (l[y.fst]? = some y.snd.fst ∧ y.snd.snd ≤ l.length) ∧
 some (AV.int IntKind.i64 (↑x : Int)) = some (AV.int IntKind.i64 (↑y.fst : Int)) ∧
 l.length - y.snd.snd < l.length - x_1.snd.snd))) ∧
 (decide ((↑x_1.snd.snd : Int) < (↑(itsL l).length : Int)) = false →
 (decide ((↑(lessN (List.take x_1.snd.snd l) x_1.snd.fst.n) : Int) < q) = true →
 (decide
 (q ≤
 IntKind.i64.wrap
 ((↑(lessN (List.take x_1.snd.snd l) x_1.snd.fst.n) : Int) + (↑(sameN (List.take x_1.snd.snd l) x_1.snd.fst.n) : Int))) =
 true →
 ((0 : Int) ≤ (↑x_1.fst : Int) ∧ (↑x_1.fst : Int) < (↑(itsL l).length : Int)) ∧
 ∃ (n : Int),
 takeAt PA ((3 : Nat)) (itsL l) (↑x_1.fst : Int).toNat ((1 : Nat)) = some (AV.int IntKind.i64 n) ∧
 RetIs (AV.int IntKind.i64 n) [] (r, [])) ∧
 (decide
 (q ≤
 IntKind.i64.wrap
 ((↑(lessN (List.take x_1.snd.snd l) x_1.snd.fst.n) : Int) + (↑(sameN (List.take x_1.snd.snd l) x_1.snd.fst.n) : Int))) =
 false →
 ∃ (y : Nat),
 ValsAre
 [AV.sl ((6 : Nat)) (itsL l) Own.no, AV.int IntKind.i64 q,
 AV.int IntKind.i64 (IntKind.i64.wrap ((↑x_1.fst : Int) + (1 : Int)))]
 [AV.sl ((6 : Nat)) (itsL l) Own.no, AV.int IntKind.i64 q, AV.int IntKind.i64 (↑y : Int)] ∧
 StIs { boxes := [], live := [] } { boxes := [], live := [] } ∧
 (y ≤ l.length ∧ ∀ (x : ItI), x ∈ List.take y l → rankI l q x = false) ∧ l.length - y < l.length - x)) ∧
 (decide ((↑(lessN (List.take x_1.snd.snd l) x_1.snd.fst.n) : Int) < q) = false →
 ∃ (y : Nat),
 ValsAre
 [AV.sl ((6 : Nat)) (itsL l) Own.no, AV.int IntKind.i64 q, AV.int IntKind.i64 (IntKind.i64.wrap ((↑x_1.fst : Int) + (1 : Int)))]
 [AV.sl ((6 : Nat)) (itsL l) Own.no, AV.int IntKind.i64 q, AV.int IntKind.i64 (↑y : Int)] ∧
 StIs { boxes := [], live := [] } { boxes := [], live := [] } ∧
 (y ≤ l.length ∧ ∀ (x : ItI), x ∈ List.take y l → rankI l q x = false) ∧ l.length - y < l.length - x))) ∧
        (decide ((↑x : Int) < (↑(itsL l).length : Int)) = false → RetIs (AV.int IntKind.i64 (0 : Int)) [] (r, []))) := by kernel_rfl
end Go.Abs

namespace Go.Abs
open Go.Proofs Go.Proofs.K17 Go.Proofs.D17 Go.RowKit
theorem wrapB {i : Nat} (h : i + 1 ≤ 9223372036854775807) : IntKind.i64.wrap ((i : Int) + 1) = ((i + 1 : Nat) : Int) := by
  rw [iwN ⟨by omega, by omega⟩]; omega
theorem agg9 : aggA PA 9 = some false := by kernel_rfl
theorem size9 : sizeA PA 9 = some 1 := by kernel_rfl
theorem agg26 : aggA PA 26 = some true := by kernel_rfl
theorem size26 : sizeA PA 26 = some 3 := by kernel_rfl
theorem take_is {l : List ItI} {i : Nat} (h : i < l.length) : takeAt PA 9 (itsL l) i 2 = some (.str l[i].s) := by
  unfold takeAt
  rw [its_at h]
  simp only [agg9, size9, takeA]
  rfl
theorem take_ir {l : List ItI} {i : Nat} (h : i < l.length) : takeAt PA 9 (itsL l) i 3 = some (.str l[i].src) := by
  unfold takeAt
  rw [its_at h]
  simp only [agg9, size9, takeA]
  rfl
theorem take_ik {l : List ItI} {i : Nat} (h : i < l.length) : takeAt PA 3 (itsL l) i 0 = some (.int .i64 l[i].k) := by
  unfold takeAt
  rw [its_at h]
  simp only [agg3, size3, takeA]
  rfl
theorem take_in {l : List ItI} {i : Nat} (h : i < l.length) : takeAt PA 3 (itsL l) i 1 = some (.int .i64 l[i].n) := by
  unfold takeAt
  rw [its_at h]
  simp only [agg3, size3, takeA]
  rfl
theorem take_iv {l : List ItI} {i : Nat} (h : i < l.length) : takeAt PA 26 (itsL l) i 0 = some (valA l[i].k l[i].n l[i].s) := by
  unfold takeAt
  rw [its_at h]
  simp only [agg26, size26, takeA]
  rfl
theorem all_not {α : Type} {p : α → Bool} {l : List α} {i : Nat} (h : i < l.length) (hp : p l[i] = false) : l.all p = false := all_no (List.getElem_mem h) hp
theorem all_succ {α : Type} {p : α → Bool} {l : List α} {i : Nat} (h : i < l.length) (h1 : (l.take i).all p = true) (hp : p l[i] = true) : (l.take (i + 1)).all p = true := by
  rw [List.take_succ_eq_append_getElem h, List.all_append, h1]; simp [hp]
theorem q21 (l : List ItI) (hl : l.length ≤ maxLen) : PureOk PA GA XU (tbl []) (itbl []) (a21 l) [] 21 [.sl 6 (itsL l) .no] (.bool (smallP l), []) := by
  constructor
  rw [y21]
  unfold maxLen at hl
  refine ⟨⟨0, ⟨rfl⟩, ⟨rfl⟩, ⟨Nat.zero_le _, by rw [List.take_zero]; rfl⟩, trivial⟩, fun i hi => ⟨fun lt => ?_, fun ge => ⟨fun c => ?_, fun c => ?_⟩⟩⟩
  · have lt := of_decide_eq_true lt
    rw [len_its] at lt
    have hil : i < l.length := by omega
    have no : smI l[i] = false → RetIs (AV.bool false) [] (AV.bool (smallP l), []) := fun h => retIs_iff.2 (by unfold smallP; rw [all_not hil h]; rfl)
    refine ⟨⟨by omega, by rw [len_its]; omega⟩, _, by rw [Int.toNat_natCast]; exact take_is hil, fun c => no ?_, fun c => ⟨⟨by omega, by rw [len_its]; omega⟩, _, by rw [Int.toNat_natCast]; exact take_ir hil, fun d => no ?_, fun d => ⟨i + 1, ⟨by rw [wrapB (by omega)]⟩, ⟨rfl⟩, ⟨hil, all_succ hil hi.2 ?_⟩, by omega⟩⟩⟩
    · have c := of_decide_eq_true c
      unfold smI; rw [decide_eq_false (by omega)]; rfl
    · have d := of_decide_eq_true d
      unfold smI; rw [decide_eq_false (show ¬ l[i].src.length ≤ 100 by omega), Bool.and_false]
    · have c := of_decide_eq_false c
      have d := of_decide_eq_false d
      unfold smI; rw [decide_eq_true (by omega), decide_eq_true (by omega)]; rfl
  · have ge := of_decide_eq_false ge
    have c := of_decide_eq_true c
    rw [len_its] at ge c
    have h2 := hi.2
    rw [List.take_of_length_le (by omega)] at h2
    refine retIs_iff.2 ?_
    unfold smallP; rw [h2, decide_eq_true (by omega)]; rfl
  · have c := of_decide_eq_false c
    rw [len_its] at c
    refine retIs_iff.2 ?_
    unfold smallP; rw [decide_eq_false (by omega), Bool.and_false]
theorem q8 (kind : Int) (l : List ItI) (hl : l.length ≤ maxLen) : PureOk PA GA XU (tbl [(12, v12), (21, v21)]) (itbl []) (a8z kind l) [] 8 [.int .i64 kind, .sl 6 (itsL l) .no] (.bool (nuP kind l), []) := by
  constructor
  rw [y8]
  have hl' := hl
  unfold maxLen at hl
  refine ⟨⟨0, ⟨rfl⟩, ⟨rfl⟩, ⟨Nat.zero_le _, by rw [List.take_zero]; rfl⟩, trivial⟩, fun i hi => ⟨fun lt => ?_, fun ge => ?_⟩⟩
  · have lt := of_decide_eq_true lt
    rw [len_its] at lt
    have hil : i < l.length := by omega
    have no : nuI kind l[i] = false → RetIs (AV.bool false) [] (AV.bool (nuP kind l), []) := fun h => retIs_iff.2 (by unfold nuP; rw [all_not hil h]; rfl)
    refine ⟨⟨by omega, by rw [len_its]; omega⟩, _, by rw [Int.toNat_natCast]; exact take_ic hil, fun c => no ?_, fun c => ⟨⟨by omega, by rw [len_its]; omega⟩, _, by rw [Int.toNat_natCast]; exact take_ik hil, fun d => no ?_, fun d => ⟨⟨by omega, by rw [len_its]; omega⟩, _, _, _, by rw [Int.toNat_natCast]; exact take_iv hil, _, callIs_iff.2 rfl, fun e => ⟨i + 1, ⟨by rw [wrapB (by omega)]⟩, ⟨rfl⟩, ⟨hil, all_succ hil hi.2 ?_⟩, by omega⟩, fun e => no ?_⟩⟩⟩
    · have c : (l[i].c == 1) = false := by simpa using c
      unfold nuI; rw [c]; rfl
    · have d : (l[i].k == kind) = false := by simpa using d
      unfold nuI; rw [d, Bool.and_false, Bool.false_and]
    · have c : (l[i].c == 1) = true := by simpa using c
      have d : (l[i].k == kind) = true := by simpa using d
      unfold nuI; rw [c, d, e]; rfl
    · unfold nuI; rw [e, Bool.and_false]
  · have ge := of_decide_eq_false ge
    rw [len_its] at ge
    have h2 := hi.2
    rw [List.take_of_length_le (by omega)] at h2
    refine ⟨smallP l, callIs_iff.2 ?_, fun b => ⟨fun c => retIs_iff.2 ?_, fun c => ⟨fun d => retIs_iff.2 ?_, fun d => retIs_iff.2 ?_⟩⟩, fun b => retIs_iff.2 ?_⟩
    · rw [tb_miss (by decide), tb_hit]; simp only [v21, show unL unI (itsL l) = some l from unL_map unI_ok l]
      rw [if_pos ⟨.inl trivial, hl'⟩]
    · unfold nuP; rw [h2, b, c]; rfl
    · unfold nuP; rw [h2, b, c, d]; rfl
    · unfold nuP; rw [c, d, Bool.or_self, Bool.and_false]
    · unfold nuP; rw [b, Bool.and_false, Bool.false_and]
theorem less_succ {l : List ItI} {j : Nat} (h : j < l.length) (n : Int) : lessN (l.take (j + 1)) n = lessN (l.take j) n + (if l[j].n < n then 1 else 0) := by
  unfold lessN
  rw [List.take_succ_eq_append_getElem h, List.filter_append, List.length_append]
  congr 1
  by_cases hh : l[j].n < n <;> simp [hh]
theorem same_succ {l : List ItI} {j : Nat} (h : j < l.length) (n : Int) : sameN (l.take (j + 1)) n = sameN (l.take j) n + (if l[j].n = n then 1 else 0) := by
  unfold sameN
  rw [List.take_succ_eq_append_getElem h, List.filter_append, List.length_append]
  congr 1
  by_cases hh : l[j].n = n <;> simp [hh]
theorem less_le (l : List ItI) (n : Int) : lessN l n ≤ l.length := List.length_filter_le ..
theorem same_le (l : List ItI) (n : Int) : sameN l n ≤ l.length := List.length_filter_le ..
theorem rank_find {l : List ItI} {r : Int} {i : Nat} (h : i < l.length) (h0 : ∀ x ∈ l.take i, rankI l r x = false) (h1 : rankI l r l[i] = true) : rankP l r = l[i].n := by
  unfold rankP
  have e : l.find? (rankI l r) = some l[i] := by
    have : l = l.take i ++ l[i] :: l.drop (i + 1) := by rw [List.getElem_cons_drop, List.take_append_drop]
    conv => lhs; arg 2; rw [this]
    rw [List.find?_append, List.find?_eq_none.2 fun x hx => by rw [h0 x hx]; simp, Option.none_or, List.find?_cons, h1]
  rw [e]
theorem rank_none {l : List ItI} {r : Int} (h0 : ∀ x ∈ l, rankI l r x = false) : rankP l r = 0 := by
  unfold rankP
  rw [List.find?_eq_none.2 fun x hx => by rw [h0 x hx]; simp]
theorem q11 (l : List ItI) (q : Int) (hl : l.length ≤ 1000) : PureOk PA GA XU (tbl []) (itbl []) (a11z l q) [] 11 [.sl 6 (itsL l) .no, .int .i64 q] (.int .i64 (rankP l q), []) := by
  constructor
  rw [y11]
  refine ⟨⟨0, ⟨rfl⟩, ⟨rfl⟩, ⟨Nat.zero_le _, fun x hx => by rw [List.take_zero] at hx; cases hx⟩, trivial⟩, fun i hi => ⟨fun lt => ?_, fun ge => ?_⟩⟩
  · have lt := of_decide_eq_true lt
    rw [len_its] at lt
    have hil : i < l.length := by omega
    refine ⟨⟨(i, l[i], 0), ⟨rfl⟩, ⟨rfl⟩, ⟨List.getElem?_eq_getElem hil, Nat.zero_le _⟩, rfl⟩, fun p hp hk => ?_⟩
    obtain ⟨pi, px, pj⟩ := p
    obtain ⟨hpx, hpj⟩ := hp
    dsimp only at hpx hpj hk ⊢
    have e : i = pi := by
      have := congrArg (fun o : Option AV => match o with | some (.int _ z) => z | _ => 0) hk
      have this : (i : Int) = pi := this
      omega
    subst e
    rw [List.getElem?_eq_getElem hil] at hpx
    injection hpx with hpx; subst hpx
    have L1 := less_le (l.take pj) l[i].n
    have L2 := same_le (l.take pj) l[i].n
    rw [List.length_take] at L1 L2
    refine ⟨fun lt2 => ?_, fun ge2 => ?_⟩
    · have lt2 := of_decide_eq_true lt2
      rw [len_its] at lt2
      have hjl : pj < l.length := by omega
      have bi : (0 : Int) ≤ (i : Int) ∧ (i : Int) < ((itsL l).length : Int) := ⟨by omega, by rw [len_its]; omega⟩
      have bj : (0 : Int) ≤ (pj : Int) ∧ (pj : Int) < ((itsL l).length : Int) := ⟨by omega, by rw [len_its]; omega⟩
      have ti : takeAt PA 3 (itsL l) ((i : Int)).toNat 1 = some (.int .i64 l[i].n) := by rw [Int.toNat_natCast]; exact take_in hil
      have tj : takeAt PA 3 (itsL l) ((pj : Int)).toNat 1 = some (.int .i64 l[pj].n) := by rw [Int.toNat_natCast]; exact take_in hjl
      have hs := less_succ hjl l[i].n
      have hs2 := same_succ hjl l[i].n
      have mu : l.length - (pj + 1) < l.length - pj := by omega
      refine ⟨bj, _, tj, bi, _, ti, fun c => ⟨bj, _, tj, bi, _, ti, fun d => ?_, fun d => ⟨(i, l[i], pj + 1), ⟨?_⟩, ⟨rfl⟩, ⟨List.getElem?_eq_getElem hil, hjl⟩, hk, mu⟩⟩, fun c => ⟨bj, _, tj, bi, _, ti, fun d => ⟨(i, l[i], pj + 1), ⟨?_⟩, ⟨rfl⟩, ⟨List.getElem?_eq_getElem hil, hjl⟩, hk, mu⟩, fun d => ⟨(i, l[i], pj + 1), ⟨?_⟩, ⟨rfl⟩, ⟨List.getElem?_eq_getElem hil, hjl⟩, hk, mu⟩⟩⟩
      · have c := of_decide_eq_true c
        have d : l[pj].n = l[i].n := by simpa using d
        omega
      · have c := of_decide_eq_true c
        have d : ¬ l[pj].n = l[i].n := by omega
        rw [if_pos c] at hs
        rw [if_neg d] at hs2
        dsimp only
        rw [wrapB (by omega), wrapB (by omega), hs, hs2]
        first | done | rfl
      · have c := of_decide_eq_false c
        have d : l[pj].n = l[i].n := by simpa using d
        rw [if_neg c] at hs
        rw [if_pos d] at hs2
        dsimp only
        rw [wrapB (by omega), wrapB (by omega), hs, hs2]
        first | done | rfl
      · have c := of_decide_eq_false c
        have d : ¬ l[pj].n = l[i].n := by simpa using d
        rw [if_neg c] at hs
        rw [if_neg d] at hs2
        dsimp only
        rw [wrapB (by omega), hs, hs2]
        first | done | rfl
    · have ge2 := of_decide_eq_false ge2
      rw [len_its] at ge2
      have hall : l.take pj = l := List.take_of_length_le (by omega)
      have ti : takeAt PA 3 (itsL l) ((i : Int)).toNat 1 = some (.int .i64 l[i].n) := by rw [Int.toNat_natCast]; exact take_in hil
      have hw : IntKind.i64.wrap ((lessN (l.take pj) l[i].n : Int) + (sameN (l.take pj) l[i].n : Int)) = lessN l l[i].n + sameN l l[i].n := by
        rw [iwN ⟨by omega, by omega⟩, hall]
      have step : rankI l q l[i] = false → ∀ x ∈ l.take (i + 1), rankI l q x = false := fun h x hx => by
        rw [List.take_succ_eq_append_getElem hil] at hx
        rcases List.mem_append.1 hx with hx | hx
        · exact hi.2 x hx
        · obtain rfl := List.mem_singleton.1 hx; exact h
      refine ⟨fun c => ⟨fun d => ⟨⟨by omega, by rw [len_its]; omega⟩, _, ti, retIs_iff.2 ?_⟩, fun d => ⟨i + 1, ⟨by rw [wrapB (by omega)]⟩, ⟨rfl⟩, ⟨hil, step ?_⟩, by omega⟩⟩, fun c => ⟨i + 1, ⟨by rw [wrapB (by omega)]⟩, ⟨rfl⟩, ⟨hil, step ?_⟩, by omega⟩⟩
      · rw [hw] at d
        rw [hall] at c
        rw [rank_find hil hi.2 (by unfold rankI; rw [c, d]; rfl)]
      · rw [hw] at d
        unfold rankI; rw [d, Bool.and_false]
      · rw [hall] at c
        unfold rankI; rw [c]; rfl
  · have ge := of_decide_eq_false ge
    rw [len_its] at ge
    have h2 := hi.2
    rw [List.take_of_length_le (by omega)] at h2
    exact retIs_iff.2 (by rw [rank_none h2])
theorem wk_its {sz : Nat} {l : List ItI} {o : Own} (h : sz = 6 ∨ l = []) : wkSt (.sl sz (l.map itA) o) = .sl 6 (itsL l) .no := by
  cases l with
  | nil => rfl
  | cons x l =>
    obtain rfl : sz = 6 := h.resolve_right (by simp)
    rfl
theorem j21 : SpecOk PA GA 21 v21 := spec_wkS fun args r h => by
  unfold v21 at h
  split at h
  case h_2 => cases h
  split at h
  case h_2 => cases h
  rename_i l hl
  split at h
  case isFalse => cases h
  rename_i hc
  injection h with h; subst h
  obtain rfl := unL_inv unI_inv hl
  rw [List.map_cons, List.map_nil, wk_its hc.1]
  exact one_pure mixedA tbl_nil itbl_nil (q21 l hc.2)
theorem j8 : SpecOk PA GA 8 v8 := spec_wkS fun args r h => by
  unfold v8 at h
  split at h
  case h_2 => cases h
  split at h
  case h_2 => cases h
  rename_i l hl
  split at h
  case isFalse => cases h
  rename_i hc
  injection h with h; subst h
  obtain rfl := unL_inv unI_inv hl
  rw [List.map_cons, List.map_cons, List.map_nil, wk_its hc.1]
  exact one_pure mixedA (tbl_cons j12 (tbl_cons j21 tbl_nil)) itbl_nil (q8 _ l hc.2)
theorem j11 : SpecOk PA GA 11 v11 := spec_wkS fun args r h => by
  unfold v11 at h
  split at h
  case h_2 => cases h
  split at h
  case h_2 => cases h
  rename_i l hl
  split at h
  case isFalse => cases h
  rename_i hc
  injection h with h; subst h
  obtain rfl := unL_inv unI_inv hl
  rw [List.map_cons, List.map_cons, List.map_nil, wk_its hc.1]
  exact one_pure mixedA tbl_nil itbl_nil (q11 l _ hc.2)
end Go.Abs

namespace Go.Abs
open Go.Proofs Go.Proofs.K17 Go.Proofs.D17 Go.RowKit
def u3 : Spec := fun args => match args with
  | [.int .i64 kind, .sl sz es _, .int .i64 p] => match unL unI es with
    | some l => if (sz = 6 ∨ l = []) ∧ l.length ≤ maxLen ∧ (∀ x ∈ l, itOk x) ∧ iOk kind ∧ iOk p then some (.bool true, []) else none
    | none => none
  | _ => none
def RQ : Callee := tbl [(7, s7), (8, v8), (10, s12), (9, s18), (11, v11)]
def resQ (_kind : Int) (l : List ItI) (p : Int) : Option Int := quantile (ofP bQuantile l).bks p
def valQ (kind : Int) (l : List ItI) (p : Int) : Bst := match resQ kind l p with
  | none => ⟨0, 0, [], false⟩
  | some n => ⟨kind, n, [], true⟩
def placeQ (l : List ItI) (p : Int) : Int := if (p * l.length + 999) / 1000 < 1 then 1 else (p * l.length + 999) / 1000
def b3 (kind : Int) (l : List ItI) (p : Int) : Anns :=
  let vs : List AV := [.int .i64 kind, .sl 6 (itsL l) .no, .int .i64 p]
  let S : St := ⟨[some (exC 5 bQuantile p), some (bC (valQ kind l p))], []⟩
  ⟨fun j => if j = 1000007 then some { α := Unit, slots := [0, 1, 2, 7, 8], nb := 2, vals := fun _ => vs ++ [.ptr 0 0, .ptr 1 0], sS := fun _ => S, I := fun _ => True, μ := fun _ => 0 }
  else if j = 1000010 then some { α := Unit, slots := [0, 1, 2, 7, 8, 9], nb := 2, vals := fun _ => vs ++ [.ptr 0 0, .ptr 1 0, .int .i64 (placeQ l p)], sS := fun _ => S, I := fun _ => True, μ := fun _ => 0 }
  else none, nA⟩
end Go.Abs

namespace Go.Abs
open Go.Proofs Go.Proofs.K17 Go.Proofs.D17 Go.RowKit
/-! a number and its bucket -/
theorem bk_pos {n : Nat} (h : n < 2 ^ 64) (h0 : 0 < n) : 0 < bk n := by
  by_cases h64 : n < 64
  · rw [bk_small n h64]; exact h0
  · have := sh_ge n h (by omega)
    unfold bk; omega
theorem low_near {n : Nat} (h : n < 2 ^ 64) (h0 : 0 < n) : lowN (bk n) ≤ n ∧ n - lowN (bk n) ≤ (n - 1) / 32 ∧ 0 < lowN (bk n) := by
  rw [low_bk n h]
  have hp : 0 < 2 ^ sh n := Nat.two_pow_pos _
  have e := Nat.div_add_mod n (2 ^ sh n)
  rw [Nat.mul_comm] at e
  have hm := Nat.mod_lt n hp
  by_cases h32 : 32 ≤ n
  · have h1 := sh_ge n h h32
    have h2 : 32 * 2 ^ sh n ≤ n / 2 ^ sh n * 2 ^ sh n := Nat.mul_le_mul_right _ h1
    refine ⟨by omega, ?_, by omega⟩
    rw [Nat.le_div_iff_mul_le (by decide)]
    omega
  · have : sh n = 0 := sh_small n (by omega)
    rw [this, Nat.pow_zero, Nat.div_one, Nat.mul_one]
    omega
theorem low_idx {n : Int} (h : -1152921504606846976 ≤ n ∧ n ≤ 1152921504606846976) :
    (n = 0 → low (idx n) = 0) ∧ (n < 0 → low (idx n) < 0 ∧ -low (idx n) ≤ -n ∧ -n - -low (idx n) ≤ (-n - 1) / 32) ∧ (0 < n → 0 < low (idx n) ∧ low (idx n) ≤ n ∧ n - low (idx n) ≤ (n - 1) / 32) := by
  refine ⟨fun h0 => by subst h0; decide +kernel, fun h0 => ?_, fun h0 => ?_⟩
  · obtain ⟨m, hm⟩ : ∃ m : Nat, n = -(m : Int) := ⟨n.natAbs, by omega⟩
    subst hm
    have m0 : 0 < m := by omega
    have ml : m < 9223372036854775808 := by omega
    have hb := bk_max m ml
    have hp := bk_pos (n := m) (by omega) m0
    have e : idx (-(m : Int)) = -(bk m : Int) := by unfold idx; rw [if_pos h0, show (- -(m : Int)).toNat = m by omega]
    have e2 : low (-(bk m : Int)) = -(lowN (bk m) : Int) := by unfold low; rw [if_neg (by omega), if_pos (by omega), show (- -(bk m : Int)).toNat = bk m by omega]
    rw [e, e2]
    obtain ⟨a, b, c⟩ := low_near (n := m) (by omega) m0
    omega
  · obtain ⟨m, hm⟩ : ∃ m : Nat, n = (m : Int) := ⟨n.natAbs, by omega⟩
    subst hm
    have m0 : 0 < m := by omega
    have ml : m < 9223372036854775808 := by omega
    have hb := bk_max m ml
    have e : idx (m : Int) = (bk m : Int) := by unfold idx; rw [if_neg (by omega), Int.toNat_natCast]
    have e2 : low (bk m : Int) = (lowN (bk m) : Int) := by unfold low; rw [if_neg (by omega), if_neg (by omega), Int.toNat_natCast]
    rw [e, e2]
    obtain ⟨a, b, c⟩ := low_near (n := m) (by omega) m0
    omega
theorem idx_mono {a b : Int} (ha : -1152921504606846976 ≤ a) (hb : b ≤ 1152921504606846976) (h : a ≤ b) : idx a ≤ idx b := by
  unfold idx
  split
  · split
    · have := bk_mono (-b).toNat (-a).toNat (by omega) (by omega)
      omega
    · omega
  · rw [if_neg (by omega)]
    have := bk_mono a.toNat b.toNat (by omega) (by omega)
    omega
/-! ranks of sorted buckets -/
def sumTo (k : Int) : Bks → Int
  | [] => 0
  | x :: t => (if x.1 ≤ k then x.2 else 0) + sumTo k t
def sumAll : Bks → Int
  | [] => 0
  | x :: t => x.2 + sumAll t
theorem sumTo_le {k : Int} : ∀ {l : Bks}, (∀ x ∈ l, 0 ≤ x.2) → 0 ≤ sumTo k l ∧ sumTo k l ≤ sumAll l
  | [], _ => ⟨Int.le_refl _, Int.le_refl _⟩
  | x :: t, h => by
    have h1 := h x (by simp)
    have h2 := sumTo_le (k := k) (l := t) fun y hy => h y (by simp [hy])
    unfold sumTo sumAll
    split <;> omega
theorem count_sum : ∀ {l : Bks} {s : Int}, 0 ≤ s → (∀ x ∈ l, 0 ≤ x.2) → s + sumAll l ≤ 9223372036854775807 → countFrom s l = s + sumAll l
  | [], s, _, _, _ => by show s = s + 0; omega
  | x :: t, s, h0, h, hb => by
    have h1 := h x (by simp)
    have h2 := (sumTo_le (k := 0) (l := t) fun y hy => h y (by simp [hy]))
    have hb : s + (x.2 + sumAll t) ≤ 9223372036854775807 := hb
    have h3 : 0 ≤ sumAll t := Int.le_trans h2.1 h2.2
    unfold countFrom
    rw [w64_in ⟨by omega, by omega⟩, count_sum (by omega) (fun y hy => h y (by simp [hy])) (by omega)]
    show _ = s + (x.2 + sumAll t)
    omega
theorem rank_at : ∀ {l : Bks} {s r k : Int}, l.Pairwise (fun x y => x.1 < y.1) → 0 ≤ s → (∀ x ∈ l, 0 ≤ x.2) → s + sumAll l ≤ 9223372036854775807 → (∃ x ∈ l, x.1 = k) → r ≤ s + sumTo k l → (∀ x ∈ l, x.1 < k → s + sumTo x.1 l < r) → rankFrom s r l = some (low k)
  | [], s, r, k, _, _, _, _, hk, _, _ => by obtain ⟨x, hx, _⟩ := hk; cases hx
  | x :: t, s, r, k, hp, h0, h, hb, hk, hr, hl => by
    obtain ⟨hx, ht⟩ := List.pairwise_cons.1 hp
    have h1 := h x (by simp)
    have hn : ∀ y ∈ t, 0 ≤ y.2 := fun y hy => h y (by simp [hy])
    have h2 := sumTo_le (k := 0) hn
    have h3 : 0 ≤ sumAll t := Int.le_trans h2.1 h2.2
    have hb : s + (x.2 + sumAll t) ≤ 9223372036854775807 := hb
    have hw : wrap64 (s + x.2) = s + x.2 := w64_in ⟨by omega, by omega⟩
    have zero : ∀ j, j ≤ x.1 → sumTo j t = 0 := fun j hj => by
      have : ∀ (t : Bks), (∀ y ∈ t, x.1 < y.1) → sumTo j t = 0 := by
        intro t
        induction t with
        | nil => intro _; rfl
        | cons y t ih =>
          intro hy
          have := hy y (by simp)
          unfold sumTo
          rw [if_neg (by omega), ih fun z hz => hy z (by simp [hz])]; rfl
      exact this t hx
    unfold rankFrom
    rw [hw]
    by_cases hkx : x.1 = k
    · subst hkx
      have e : sumTo x.1 (x :: t) = x.2 + sumTo x.1 t := by show (if x.1 ≤ x.1 then x.2 else 0) + _ = _; rw [if_pos (Int.le_refl _)]
      rw [e, zero x.1 (Int.le_refl _)] at hr
      rw [if_pos (by omega)]
    · obtain ⟨y, hy, ey⟩ := hk
      rcases List.mem_cons.1 hy with rfl | hy
      · exact absurd ey hkx
      have hlt := hx y hy
      rw [ey] at hlt
      have hxx := hl x (by simp) hlt
      have e : sumTo x.1 (x :: t) = x.2 + sumTo x.1 t := by show (if x.1 ≤ x.1 then x.2 else 0) + _ = _; rw [if_pos (Int.le_refl _)]
      rw [e, zero x.1 (Int.le_refl _)] at hxx
      rw [if_neg (by omega)]
      have up : ∀ j, x.1 ≤ j → sumTo j (x :: t) = x.2 + sumTo j t := fun j hj => by show (if x.1 ≤ j then x.2 else 0) + _ = _; rw [if_pos hj]
      rw [up k (by omega)] at hr
      refine rank_at ht (by omega) hn (by omega) ⟨y, hy, ey⟩ (by omega) fun z hz hzk => ?_
      have := hl z (by simp [hz]) hzk
      rw [up z.1 (by have := hx z hz; omega)] at this
      omega
/-! buckets of a list -/
def leB (l : List ItI) (k : Int) : Nat := (l.filter fun x => decide (idx x.n ≤ k)).length
def cB (l : List ItI) (k : Int) : Nat := (l.filter fun x => decide (idx x.n = k)).length
theorem leB_cons (x : ItI) (l : List ItI) (k : Int) : leB (x :: l) k = (if idx x.n ≤ k then 1 else 0) + leB l k := by
  unfold leB
  by_cases h : idx x.n ≤ k
  · simp [h]; omega
  · simp [h]
theorem cB_cons (x : ItI) (l : List ItI) (k : Int) : cB (x :: l) k = (if idx x.n = k then 1 else 0) + cB l k := by
  unfold cB
  by_cases h : idx x.n = k
  · simp [h]; omega
  · simp [h]
def sumK (l : List ItI) (k : Int) : List Int → Nat
  | [] => 0
  | j :: t => (if j ≤ k then cB l j else 0) + sumK l k t
theorem sumK_nil (k : Int) : ∀ K, sumK [] k K = 0
  | [] => rfl
  | j :: t => by unfold sumK; rw [sumK_nil k t]; split <;> rfl
theorem sumK_cons (x : ItI) (l : List ItI) (k : Int) : ∀ {K : List Int}, K.Nodup → sumK (x :: l) k K = (if idx x.n ∈ K ∧ idx x.n ≤ k then 1 else 0) + sumK l k K
  | [], _ => by simp [sumK]
  | j :: t, h => by
    obtain ⟨h1, h2⟩ := List.nodup_cons.1 h
    unfold sumK
    rw [sumK_cons x l k h2, cB_cons]
    by_cases e : idx x.n = j
    · subst e
      have h3 : ¬ (idx x.n ∈ t ∧ idx x.n ≤ k) := fun hh => h1 hh.1
      have hm : idx x.n ∈ idx x.n :: t := by simp
      rw [if_neg h3, if_pos rfl]
      by_cases hk : idx x.n ≤ k
      · have h4 : idx x.n ∈ idx x.n :: t ∧ idx x.n ≤ k := ⟨hm, hk⟩
        rw [if_pos h4]
        simp only [if_pos hk]
        omega
      · have h4 : ¬ (idx x.n ∈ idx x.n :: t ∧ idx x.n ≤ k) := fun hh => hk hh.2
        rw [if_neg h4]
        simp only [if_neg hk]
    · have hm : (idx x.n ∈ j :: t) ↔ idx x.n ∈ t := by simp [e]
      rw [if_neg e, Nat.zero_add]
      simp only [hm]
      omega
theorem sumK_le {k : Int} {K : List Int} (hK : K.Nodup) : ∀ {l : List ItI}, (∀ x ∈ l, idx x.n ∈ K) → sumK l k K = leB l k
  | [], _ => by rw [sumK_nil]; rfl
  | x :: l, h => by
    rw [sumK_cons x l k hK, leB_cons, sumK_le hK fun y hy => h y (by simp [hy])]
    have hx := h x (by simp)
    by_cases hk : idx x.n ≤ k
    · rw [if_pos hk, if_pos ⟨hx, hk⟩]
    · rw [if_neg hk, if_neg (fun hh => hk hh.2)]
end Go.Abs

namespace Go.Abs
open Go.Proofs Go.Proofs.K17 Go.Proofs.D17 Go.RowKit
def leN (l : List ItI) (n : Int) : Nat := (l.filter fun y => decide (y.n ≤ n)).length
theorem le_sum (n : Int) : ∀ l : List ItI, lessN l n + sameN l n = leN l n
  | [] => rfl
  | x :: l => by
    have ih := le_sum n l
    unfold lessN sameN leN at *
    by_cases h1 : x.n < n
    · have h2 : ¬ x.n = n := by omega
      have h3 : x.n ≤ n := by omega
      simp [h1, h2, h3]; omega
    · by_cases h2 : x.n = n
      · have h3 : x.n ≤ n := by omega
        simp [h2]; omega
      · have h3 : ¬ x.n ≤ n := by omega
        simp [h1, h2, h3]; omega
theorem ex_max : ∀ {l : List ItI}, l ≠ [] → ∃ y ∈ l, ∀ z ∈ l, z.n ≤ y.n
  | [x], _ => ⟨x, by simp, fun z hz => by obtain rfl := List.mem_singleton.1 hz; exact Int.le_refl _⟩
  | x :: y :: l, _ => by
    obtain ⟨m, hm, h⟩ := ex_max (l := y :: l) (by simp)
    by_cases hx : x.n ≤ m.n
    · refine ⟨m, by simp [List.mem_cons.1 hm], fun z hz => ?_⟩
      rcases List.mem_cons.1 hz with rfl | hz
      · exact hx
      · exact h z hz
    · refine ⟨x, by simp, fun z hz => ?_⟩
      rcases List.mem_cons.1 hz with rfl | hz
      · exact Int.le_refl _
      · have := h z hz; omega
theorem rank_ex {l : List ItI} {r : Int} (h1 : 1 ≤ r) : ∀ (m : Nat) {x : ItI}, x ∈ l → lessN l x.n ≤ m → r ≤ leN l x.n → ∃ z ∈ l, rankI l r z = true := by
  intro m
  induction m with
  | zero =>
    intro x hx hm hr
    refine ⟨x, hx, ?_⟩
    unfold rankI
    have := le_sum x.n l
    rw [decide_eq_true (by omega), decide_eq_true (by omega)]; rfl
  | succ m ih =>
    intro x hx hm hr
    have hs := le_sum x.n l
    by_cases hlt : (lessN l x.n : Int) < r
    · refine ⟨x, hx, ?_⟩
      unfold rankI
      rw [decide_eq_true hlt, decide_eq_true (by omega)]; rfl
    · have hne : (l.filter fun y => decide (y.n < x.n)) ≠ [] := fun e => by
        have : lessN l x.n = 0 := by unfold lessN; rw [e]; rfl
        omega
      obtain ⟨y, hy, hmax⟩ := ex_max hne
      obtain ⟨hyl, hyx⟩ := List.mem_filter.1 hy
      have hyx := of_decide_eq_true hyx
      have e : leN l y.n = lessN l x.n := by
        unfold leN lessN
        congr 1
        refine List.filter_congr fun z hz => ?_
        by_cases hz2 : z.n < x.n
        · have := hmax z (List.mem_filter.2 ⟨hz, decide_eq_true hz2⟩)
          rw [decide_eq_true hz2, decide_eq_true this]
        · rw [decide_eq_false hz2, decide_eq_false (by omega)]
      have hsy := le_sum y.n l
      have hsame : 1 ≤ sameN l y.n := by
        unfold sameN
        exact List.length_pos_iff.2 fun e => by
          have : y ∈ l.filter fun z => decide (z.n = y.n) := List.mem_filter.2 ⟨hyl, by simp⟩
          rw [e] at this; cases this
      exact ih hyl (by omega) (by omega)
theorem rank_in {l : List ItI} {r : Int} (h1 : 1 ≤ r) (h2 : r ≤ l.length) : ∃ x ∈ l, rankI l r x = true ∧ rankP l r = x.n := by
  have hne : l ≠ [] := fun e => by subst e; simp at h2; omega
  obtain ⟨y, hy, hmax⟩ := ex_max hne
  have hall : leN l y.n = l.length := by
    unfold leN
    rw [List.filter_eq_self.2 fun z hz => decide_eq_true (hmax z hz)]
  obtain ⟨z, hz, hr⟩ := rank_ex h1 _ hy (Nat.le_refl _) (by omega)
  unfold rankP
  cases hf : l.find? (rankI l r) with
  | none => have := List.find?_eq_none.1 hf z hz; rw [hr] at this; simp at this
  | some x => exact ⟨x, List.mem_of_find?_eq_some hf, List.find?_some hf, rfl⟩
theorem sm_one {l : List ItI} (h : ∀ x ∈ l, x.c = 1) (k : Int) : sm (gB k) l = cB l k := by
  induction l with
  | nil => rfl
  | cons x l ih =>
    rw [cB_cons]
    show gB k x + sm (gB k) l = _
    rw [ih fun y hy => h y (by simp [hy])]
    unfold gB
    rw [h x (by simp)]
    split <;> omega
theorem sumTo_K {l : List ItI} {k : Int} : ∀ {t : Bks}, (∀ x ∈ t, x.2 = cB l x.1) → sumTo k t = sumK l k (t.map (·.1))
  | [], _ => rfl
  | x :: t, h => by
    have ih := sumTo_K (k := k) (t := t) fun y hy => h y (by simp [hy])
    have hx := h x (by simp)
    show (if x.1 ≤ k then x.2 else 0) + sumTo k t = ((if x.1 ≤ k then cB l x.1 else 0) + sumK l k (t.map (·.1)) : Nat)
    rw [ih, hx]
    split <;> omega
theorem sumAll_to {k : Int} : ∀ {t : Bks}, (∀ x ∈ t, x.1 ≤ k) → sumTo k t = sumAll t
  | [], _ => rfl
  | x :: t, h => by
    have ih := sumAll_to (k := k) (t := t) fun y hy => h y (by simp [hy])
    show (if x.1 ≤ k then x.2 else 0) + sumTo k t = x.2 + sumAll t
    rw [ih, if_pos (h x (by simp))]
theorem famQ : famO bQuantile = some .smp := rfl
structure NuQ (l : List ItI) : Prop where
  len : l.length ≤ 40
  one : ∀ x ∈ l, x.c = 1
  rng : ∀ x ∈ l, -1152921504606846976 ≤ x.n ∧ x.n ≤ 1152921504606846976
  ok : ∀ x ∈ l, itOk x
theorem cB_le (l : List ItI) (k : Int) : cB l k ≤ l.length := List.length_filter_le ..
theorem bks_q {l : List ItI} (h : NuQ l) : (ofP bQuantile l).bks.Pairwise (fun x y => x.1 < y.1) ∧ (∀ x ∈ (ofP bQuantile l).bks, x.2 = cB l x.1 ∧ x.1 ≤ 1887) ∧ (∀ x ∈ l, ∃ y ∈ (ofP bQuantile l).bks, y.1 = idx x.n) ∧
    (∀ k, sumTo k (ofP bQuantile l).bks = leB l k) ∧ sumAll (ofP bQuantile l).bks = l.length := by
  obtain ⟨b1, b2, b3⟩ := (stOf_of famQ h.ok).b.1 rfl
  have hl := h.len
  have ht : ∀ k, tot (ofP bQuantile l).bks k = cB l k := fun k => by
    have := cB_le l k
    rw [b3, sm_one h.one, w64_in ⟨by omega, by omega⟩]
  have hc : ∀ x ∈ (ofP bQuantile l).bks, x.2 = cB l x.1 := fun x hx => by rw [← ht, tot_one b1 b2 hx]
  have hkey : ∀ x ∈ l, ∃ y ∈ (ofP bQuantile l).bks, y.1 = idx x.n := fun x hx => by
    refine Classical.byContradiction fun hn => ?_
    have h0 := tot_none (l := (ofP bQuantile l).bks) (k := idx x.n) fun y hy e => hn ⟨y, hy, e⟩
    rw [ht] at h0
    have : x ∈ l.filter fun z => decide (idx z.n = idx x.n) := List.mem_filter.2 ⟨hx, by simp⟩
    have : 0 < cB l (idx x.n) := List.length_pos_iff.2 fun e => by rw [e] at this; cases this
    omega
  have hle : ∀ x ∈ (ofP bQuantile l).bks, x.1 ≤ 1887 := fun x hx => by
    have h0 := b1.2 x hx
    rw [hc x hx] at h0
    have : (l.filter fun z => decide (idx z.n = x.1)) ≠ [] := fun e => h0 (by unfold cB; rw [e]; rfl)
    obtain ⟨z, hz⟩ := List.exists_mem_of_ne_nil _ this
    obtain ⟨hzl, hz⟩ := List.mem_filter.1 hz
    have hz := of_decide_eq_true hz
    have hr := h.rng z hzl
    have := (idx_range z.n (by omega) (by omega)).2
    omega
  have hnd : ((ofP bQuantile l).bks.map (·.1)).Nodup := by
    rw [List.nodup_iff_pairwise_ne, List.pairwise_map]
    exact b1.1.imp fun {a b} hab e => by omega
  have hs : ∀ k, sumTo k (ofP bQuantile l).bks = leB l k := fun k => by
    rw [sumTo_K hc, sumK_le hnd fun x hx => by obtain ⟨y, hy, e⟩ := hkey x hx; exact List.mem_map.2 ⟨y, hy, e⟩]
  refine ⟨b1.1, fun x hx => ⟨hc x hx, hle x hx⟩, hkey, hs, ?_⟩
  rw [← sumAll_to hle, hs]
  have : leB l 1887 = l.length := by
    unfold leB
    rw [List.filter_eq_self.2 fun z hz => decide_eq_true ?_]
    have hr := h.rng z hz
    exact (idx_range z.n (by omega) (by omega)).2
  rw [this]
theorem quant_law {l : List ItI} (h : NuQ l) (h0 : l ≠ []) {p : Int} (p1 : 1 ≤ p) (p2 : p ≤ 1000) : quantile (ofP bQuantile l).bks p = some (low (idx (rankP l (placeQ l p)))) ∧ -1152921504606846976 ≤ rankP l (placeQ l p) ∧ rankP l (placeQ l p) ≤ 1152921504606846976 := by
  obtain ⟨q1, q2, q3, q4, q5⟩ := bks_q h
  have hl := h.len
  have hN : 1 ≤ l.length := List.length_pos_iff.2 h0
  have hnn : ∀ x ∈ (ofP bQuantile l).bks, 0 ≤ x.2 := fun x hx => by rw [(q2 x hx).1]; omega
  have hc : count (ofP bQuantile l).bks = l.length := by
    unfold count
    rw [count_sum (Int.le_refl 0) hnn (by omega), q5, Int.zero_add]
  have hpN : 0 ≤ p * l.length ∧ p * l.length ≤ 1000 * l.length := ⟨Int.mul_nonneg (by omega) (by omega), Int.mul_le_mul_of_nonneg_right p2 (by omega)⟩
  have hpl : place (l.length : Int) p = placeQ l p := by
    unfold place placeQ
    have e1 : (l.length : Int) / 1000 = 0 := by omega
    have e2 : (l.length : Int) % 1000 = l.length := by omega
    rw [e1, e2, Int.zero_mul, Int.zero_add, Int.mul_comm]
    split <;> omega
  have hr1 : 1 ≤ placeQ l p := by unfold placeQ; split <;> omega
  have hr2 : placeQ l p ≤ l.length := by unfold placeQ; split <;> omega
  obtain ⟨x, hx, hr, hn⟩ := rank_in hr1 hr2
  have hxr := h.rng x hx
  refine ⟨?_, by rw [hn]; exact hxr.1, by rw [hn]; exact hxr.2⟩
  unfold quantile
  rw [hc, if_neg (by omega), hpl]
  unfold rank
  rw [if_neg (by omega), hn]
  unfold rankI at hr
  simp only [Bool.and_eq_true, decide_eq_true_eq] at hr
  have hls := le_sum x.n l
  obtain ⟨y, hy, ey⟩ := q3 x hx
  refine rank_at q1 (Int.le_refl 0) hnn (by omega) ⟨y, hy, ey⟩ ?_ fun z hz hzk => ?_
  · rw [q4, Int.zero_add]
    have : leN l x.n ≤ leB l (idx x.n) := by
      unfold leN leB
      rw [← List.countP_eq_length_filter, ← List.countP_eq_length_filter]
      refine List.countP_mono_left fun w hw hwx => ?_
      have hwx := of_decide_eq_true hwx
      exact decide_eq_true (idx_mono (h.rng w hw).1 hxr.2 hwx)
    omega
  · rw [q4, Int.zero_add]
    have : leB l z.1 ≤ lessN l x.n := by
      unfold leB lessN
      rw [← List.countP_eq_length_filter, ← List.countP_eq_length_filter]
      refine List.countP_mono_left fun w hw hwx => ?_
      have hwx := of_decide_eq_true hwx
      refine decide_eq_true ?_
      refine Classical.byContradiction fun hge => ?_
      have := idx_mono hxr.1 (h.rng w hw).2 (show x.n ≤ w.n by omega)
      omega
    omega
end Go.Abs
