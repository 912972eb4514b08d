/- Own texts, part 7. -/
import Derived.Test.YtdajfgkcpflacaaGreatPart6

namespace Go.Abs
open Go.Proofs Go.Proofs.K17 Go.Proofs.D17 Go.RowKit
theorem w8 (h a : Int) (r : AV) : (pureW PA GA XN (tbl []) (itbl []) nAn [] 18 [.int .i64 h, .int .i64 a] (r, [])) =
((decide (h < (1 : Int)) = true → RetIs (AV.int IntKind.i64 0) [] (r, [])) ∧
  (decide (h < (1 : Int)) = false →
    (decide (h > (1073741824 : Int)) = true → RetIs (AV.int IntKind.i64 0) [] (r, [])) ∧
      (decide (h > (1073741824 : Int)) = false →
        (decide (a < (0 : Int)) = true → RetIs (AV.int IntKind.i64 0) [] (r, [])) ∧
 (decide (a < (0 : Int)) = false →
 h ≠ (0 : Int) ∧
 (decide (IntKind.i64.wrap (a.tdiv h) ≥ (32 : Int)) = true → RetIs (AV.int IntKind.i64 0) [] (r, [])) ∧
 (decide (IntKind.i64.wrap (a.tdiv h) ≥ (32 : Int)) = false →
 h ≠ (0 : Int) ∧
 (0 : Int) ≤ (31 : Int) ∧
 h ≠ (0 : Int) ∧
 h ≠ (0 : Int) ∧
 (0 : Int) ≤ IntKind.i64.wrap (a.tdiv h) ∧
 RetIs
 (AV.int IntKind.i64
 ((IntKind.i64.wrap
 ((IntKind.i64.wrap (IntKind.i64.wrap (IntKind.i64.wrap ((2 : Int) * h) - a.tmod h) * (2147483648 : Int))).tdiv h)).fdiv
 ((2 : Int) ^ min (IntKind.i64.wrap (a.tdiv h)).toNat 64)))
 [] (r, [])))))) := by kernel_rfl
theorem w50 (t e : Int) (r : AV) : (pureW PA GA XN (tbl []) (itbl []) nAn [] 107 [.int .i64 t, .int .i64 e] (r, [])) =
((decide (t ≥ e) = true →
    (decide (IntKind.i64.wrap (t - e) ≥ (0 : Int)) = true → RetIs (AV.int IntKind.i64 (IntKind.i64.wrap (t - e))) [] (r, [])) ∧
      (decide (IntKind.i64.wrap (t - e) ≥ (0 : Int)) = false → RetIs (AV.int IntKind.i64 (-1 : Int)) [] (r, []))) ∧
  (decide (t ≥ e) = false → RetIs (AV.int IntKind.i64 (-1 : Int)) [] (r, []))) := by kernel_rfl
theorem w51 (kind h l d : Int) (r : AV) : (pureW PA GA XN (tbl [(14, s55)]) (itbl []) nAn [] 108 [.int .i64 kind, .agg [.int .i64 h, .int .u64 l], .int .i64 d] (r, [])) =
(∃ (n : Int) (b : Bool),
    CallIs (tbl [(14, s55)] 14 [.agg [.int .i64 h, .int .u64 l], .int .i64 d])
        (AV.tup [.int .i64 n, .bool b]) [] ∧
      (b = true →
 ((kind != (2 : Int)) = true → RetIs (AV.agg [.int .i64 3, .int .i64 n, .str []]) [] (r, [])) ∧
 ((kind != (2 : Int)) = false → RetIs (AV.agg [.int .i64 kind, .int .i64 n, .str []]) [] (r, []))) ∧
        (b = false → RetIs (AV.agg [.int .i64 0, .int .i64 0, .str []]) [] (r, []))) := by kernel_rfl
theorem w43 (op : List UInt8) (param kind t n : Int) (l : List CeI) (r : AV) : (pureW PA GA XN (tbl []) (itbl []) nAn [] 103 [.agg [], .agg (qC op param kind t n l)] (r, [])) =
(RetIs (AV.agg [.int .i64 2, .int .i64 n, .str []]) [] (r, [])) := by kernel_rfl
theorem w46 (op : List UInt8) (param kind t n : Int) (l : List CeI) (r : AV) : (pureW PA GA XN (tbl [(107, s50), (18, s8), (45, s49), (16, s47), (108, s51)]) (itbl []) (a46 op param kind t n l) [] 106 [.agg [], .agg (qC op param kind t n l)] (r, [])) =
((∃ (y : Nat),
    ValsAre
        [.ptr 1 0, .ptr 2 0, .ptr 3 0, .sl 6 (cesL l) .no,
 .int .i64 (↑(cesL l).length : Int), .int .i64 0]
        [.ptr 1 0, .ptr 2 0, .ptr 3 0, .sl 6 (cesL l) .no,
 .int .i64 (↑l.length : Int), .int .i64 (↑y : Int)] ∧
      StIs
 { boxes := [some [.tup [.int .i64 103, .agg []]], some (qC op param kind t n l), some [.int .i64 0, .int .i64 0, .str []], some [.int .i64 0, .int .u64 0]], live := [] }
 { boxes := [some [.tup [.int .i64 103, .agg []]], some (qC op param kind t n l), some [.int .i64 0, .int .i64 0, .str []], some [.int .i64 (whi (sumP op param t (List.take y l))), .int .u64 (wlo (sumP op param t (List.take y l)))]], live := [] } ∧
        y ≤ l.length ∧ True) ∧
  ∀ (x : Nat),
    x ≤ l.length →
      (decide ((↑x : Int) < (↑l.length : Int)) = true →
 ((0 : Int) ≤ (↑x : Int) ∧ (↑x : Int) < (↑(cesL l).length : Int)) ∧
 ∃ (n_1 : Int) (n_2 : Int) (n_3 : Int) (n_4 : Int) (es : List AV) (es_1 : List AV),
 takeAt PA 42 (cesL l) (↑x : Int).toNat 0 =
 some
 (AV.agg
 [.int .i64 n_1, .int .i64 n_2, .int .i64 n_3, .int .u64 n_4, .sl 6 es .no,
 .sl 2 es_1 .no]) ∧
 ((op == [(100 : UInt8), (101 : UInt8), (99 : UInt8), (97 : UInt8), (121 : UInt8)]) = true →
 ∃ (n_5 : Int),
 CallIs (some (AV.int IntKind.i64 (ageP t n_1), [])) (AV.int IntKind.i64 n_5) [] ∧
 ∃ (n_6 : Int),
 CallIs
 (tbl [(107, s50), (18, s8), (45, s49), (16, s47), (108, s51)] 18
 [.int .i64 param, .int .i64 n_5])
 (AV.int IntKind.i64 n_6) [] ∧
 ∃ (n_7 : Int) (n_8 : Int),
 CallIs
 (tbl [(107, s50), (18, s8), (45, s49), (16, s47), (108, s51)] 45
 [.agg [.int .i64 n_3, .int .u64 n_4], .int .i64 n_6])
 (AV.agg [.int .i64 n_7, .int .u64 n_8]) [] ∧
 ∃ (n_9 : Int) (n_10 : Int),
 CallIs
 (tbl [(107, s50), (18, s8), (45, s49), (16, s47), (108, s51)]
 16
 [.agg
 [.int .i64 (whi (sumP op param t (List.take x l))),
 .int .u64 (wlo (sumP op param t (List.take x l)))],
 .agg [.int .i64 n_7, .int .u64 n_8]])
 (AV.agg [.int .i64 n_9, .int .u64 n_10]) [] ∧
 ∃ (y : Nat),
 ValsAre
 [.ptr 1 0, .ptr 2 0, .ptr 3 0,
 .sl 6 (cesL l) .no, .int .i64 (↑l.length : Int),
 .int .i64 (IntKind.i64.wrap ((↑x : Int) + (1 : Int)))]
 [.ptr 1 0, .ptr 2 0, .ptr 3 0,
 .sl 6 (cesL l) .no, .int .i64 (↑l.length : Int),
 .int .i64 (↑y : Int)] ∧
 StIs
 { boxes := [some [.tup [.int .i64 103, .agg []]], some (qC op param kind t n l), some [.int .i64 0, .int .i64 0, .str []], some [.int .i64 n_9, .int .u64 n_10]], live := [] }
 { boxes := [some [.tup [.int .i64 103, .agg []]], some (qC op param kind t n l), some [.int .i64 0, .int .i64 0, .str []], some [.int .i64 (whi (sumP op param t (List.take y l))), .int .u64 (wlo (sumP op param t (List.take y l)))]], live := [] } ∧
 y ≤ l.length ∧ l.length - y < l.length - x) ∧
 ((op == [(100 : UInt8), (101 : UInt8), (99 : UInt8), (97 : UInt8), (121 : UInt8)]) = false →
 ∃ (n_5 : Int) (n_6 : Int),
 CallIs
 (tbl [(107, s50), (18, s8), (45, s49), (16, s47), (108, s51)] 16
 [.agg
 [.int .i64 (whi (sumP op param t (List.take x l))),
 .int .u64 (wlo (sumP op param t (List.take x l)))],
 .agg [.int .i64 n_3, .int .u64 n_4]])
 (AV.agg [.int .i64 n_5, .int .u64 n_6]) [] ∧
 ∃ (y : Nat),
 ValsAre
 [.ptr 1 0, .ptr 2 0, .ptr 3 0,
 .sl 6 (cesL l) .no, .int .i64 (↑l.length : Int),
 .int .i64 (IntKind.i64.wrap ((↑x : Int) + (1 : Int)))]
 [.ptr 1 0, .ptr 2 0, .ptr 3 0,
 .sl 6 (cesL l) .no, .int .i64 (↑l.length : Int), .int .i64 (↑y : Int)] ∧
 StIs
 { boxes := [some [.tup [.int .i64 103, .agg []]], some (qC op param kind t n l), some [.int .i64 0, .int .i64 0, .str []], some [.int .i64 n_5, .int .u64 n_6]], live := [] }
 { boxes := [some [.tup [.int .i64 103, .agg []]], some (qC op param kind t n l), some [.int .i64 0, .int .i64 0, .str []], some [.int .i64 (whi (sumP op param t (List.take y l))), .int .u64 (wlo (sumP op param t (List.take y l)))]], live := [] } ∧
 y ≤ l.length ∧ l.length - y < l.length - x)) ∧
        (decide ((↑x : Int) < (↑l.length : Int)) = false →
 ((op == [(115 : UInt8), (117 : UInt8), (109 : UInt8)]) = true →
 ∃ (n : Int) (n_1 : Int) (s : List UInt8),
 CallIs
 (tbl [(107, s50), (18, s8), (45, s49), (16, s47), (108, s51)] 108
 [.int .i64 kind,
 .agg [.int .i64 (whi (sumP op param t (List.take x l))), .int .u64 (wlo (sumP op param t (List.take x l)))],
 .int .i64 1])
 (AV.agg [.int .i64 n, .int .i64 n_1, .str s]) [] ∧
 RetIs (AV.agg [.int .i64 n, .int .i64 n_1, .str s]) [] (r, [])) ∧
 ((op == [(115 : UInt8), (117 : UInt8), (109 : UInt8)]) = false →
 ((kind == (2 : Int)) = true →
 ∃ (n_1 : Int) (n_2 : Int),
 CallIs
 (tbl [(107, s50), (18, s8), (45, s49), (16, s47), (108, s51)] 45
 [.agg [.int .i64 (whi (sumP op param t (List.take x l))), .int .u64 (wlo (sumP op param t (List.take x l)))],
 .int .i64 1000000])
 (AV.agg [.int .i64 n_1, .int .u64 n_2]) [] ∧
 ((op == [(109 : UInt8), (101 : UInt8), (97 : UInt8), (110 : UInt8)]) = true →
 ∃ (n_3 : Int) (n_4 : Int) (s : List UInt8),
 CallIs
 (tbl [(107, s50), (18, s8), (45, s49), (16, s47), (108, s51)] 108
 [.int .i64 3, .agg [.int .i64 n_1, .int .u64 n_2], .int .i64 n])
 (AV.agg [.int .i64 n_3, .int .i64 n_4, .str s]) [] ∧
 RetIs (AV.agg [.int .i64 n_3, .int .i64 n_4, .str s]) [] (r, [])) ∧
 ((op == [(109 : UInt8), (101 : UInt8), (97 : UInt8), (110 : UInt8)]) = false →
 ∃ (n : Int) (n_3 : Int) (s : List UInt8),
 CallIs
 (tbl [(107, s50), (18, s8), (45, s49), (16, s47), (108, s51)] 108
 [.int .i64 3, .agg [.int .i64 n_1, .int .u64 n_2],
 .int .i64 4294967296])
 (AV.agg [.int .i64 n, .int .i64 n_3, .str s]) [] ∧
 RetIs (AV.agg [.int .i64 n, .int .i64 n_3, .str s]) [] (r, []))) ∧
 ((kind == (2 : Int)) = false →
 ((op == [(109 : UInt8), (101 : UInt8), (97 : UInt8), (110 : UInt8)]) = true →
 ∃ (n_1 : Int) (n_2 : Int) (s : List UInt8),
 CallIs
 (tbl [(107, s50), (18, s8), (45, s49), (16, s47), (108, s51)] 108
 [.int .i64 3,
 .agg
 [.int .i64 (whi (sumP op param t (List.take x l))), .int .u64 (wlo (sumP op param t (List.take x l)))],
 .int .i64 n])
 (AV.agg [.int .i64 n_1, .int .i64 n_2, .str s]) [] ∧
 RetIs (AV.agg [.int .i64 n_1, .int .i64 n_2, .str s]) [] (r, [])) ∧
 ((op == [(109 : UInt8), (101 : UInt8), (97 : UInt8), (110 : UInt8)]) = false →
 ∃ (n : Int) (n_1 : Int) (s : List UInt8),
 CallIs
 (tbl [(107, s50), (18, s8), (45, s49), (16, s47), (108, s51)] 108
 [.int .i64 3,
 .agg
 [.int .i64 (whi (sumP op param t (List.take x l))), .int .u64 (wlo (sumP op param t (List.take x l)))],
 .int .i64 4294967296])
 (AV.agg [.int .i64 n, .int .i64 n_1, .str s]) [] ∧
 RetIs (AV.agg [.int .i64 n, .int .i64 n_1, .str s]) [] (r, [])))))) := by kernel_rfl
theorem w65 (op : List UInt8) (param kind t n : Int) (l : List CeI) (r : AV) : (pureW PA GA XN (tbl [(112, s66), (114, s68)]) (itbl []) (a65 op param kind t n l) [] 111 [.agg [], .agg (qC op param kind t n l)] (r, [])) =
((decide ((0 : Int) < (↑(cesL l).length : Int)) = true →
    ((0 : Int) ≤ (0 : Int) ∧ (0 : Int) < (↑(cesL l).length : Int)) ∧
      ∃ (n_1 : Int) (n_2 : Int) (n_3 : Int) (n_4 : Int) (es : List AV) (es_1 : List AV),
 takeAt PA 42 (cesL l) 0 0 =
 some
 (AV.agg
 [.int .i64 n_1, .int .i64 n_2, .int .i64 n_3, .int .u64 n_4, .sl 6 es .no,
 .sl 2 es_1 .no]) ∧
 ∃ (es_2 : List AV),
 CallIs (tbl [(112, s66), (114, s68)] 112 [.sl 0 [] .nil, .sl 2 es_1 .no])
 (AV.sl 2 es_2 .no) [] ∧
 (∃ (y : Nat × CeI),
 ValsAre
 [.ptr 1 0, .ptr 2 0, .sl 2 es_2 .no,
 .sl 6 (cesL l) .no, .int .i64 (↑(cesL l).length : Int), .int .i64 1]
 [.ptr 1 0, .ptr 2 0, .sl 2 (bksL (mrgB (List.take y.fst l))) .no,
 .sl 6 (cesL l) .no, .int .i64 (↑l.length : Int), .int .i64 (↑y.fst : Int)] ∧
 StIs
 { boxes := [some [.tup [.int .i64 104, .agg []]], some (qC op param kind t n l), some [.int .i64 0, .int .i64 0, .str []], some [.int .i64 n_1, .int .i64 n_2, .int .i64 n_3, .int .u64 n_4, .sl 6 es .no, .sl 2 es_1 .no]], live := [] }
 { boxes := [some [.tup [.int .i64 104, .agg []]], some (qC op param kind t n l), some [.int .i64 0, .int .i64 0, .str []], some (ceC y.snd)], live := [] } ∧
 ((1 : Nat) ≤ y.fst ∧ y.fst ≤ l.length ∧ l[(0 : Nat)]? = some y.snd) ∧ True) ∧
 ∀ (x : Nat × CeI),
 (1 : Nat) ≤ x.fst ∧ x.fst ≤ l.length ∧ l[(0 : Nat)]? = some x.snd →
 (decide ((↑x.fst : Int) < (↑l.length : Int)) = true →
 ((0 : Int) ≤ (↑x.fst : Int) ∧ (↑x.fst : Int) < (↑(cesL l).length : Int)) ∧
 ∃ (n_5 : Int) (n_6 : Int) (n_7 : Int) (n_8 : Int) (es : List AV) (es_3 : List AV),
 takeAt PA 42 (cesL l) (↑x.fst : Int).toNat 0 =
 some
 (AV.agg
 [.int .i64 n_5, .int .i64 n_6, .int .i64 n_7, .int .u64 n_8,
 .sl 6 es .no, .sl 2 es_3 .no]) ∧
 ∃ (es : List AV),
 CallIs
 (tbl [(112, s66), (114, s68)] 112
 [.sl 2 (bksL (mrgB (List.take x.fst l))) .no, .sl 2 es_3 .no])
 (AV.sl 2 es .no) [] ∧
 ∃ (y : Nat × CeI),
 ValsAre
 [.ptr 1 0, .ptr 2 0, .sl 2 es .no,
 .sl 6 (cesL l) .no, .int .i64 (↑l.length : Int),
 .int .i64 (IntKind.i64.wrap ((↑x.fst : Int) + (1 : Int)))]
 [.ptr 1 0, .ptr 2 0,
 .sl 2 (bksL (mrgB (List.take y.fst l))) .no, .sl 6 (cesL l) .no,
 .int .i64 (↑l.length : Int), .int .i64 (↑y.fst : Int)] ∧
 StIs
 { boxes := [some [.tup [.int .i64 104, .agg []]], some (qC op param kind t n l), some [.int .i64 0, .int .i64 0, .str []], some (ceC x.snd)], live := [] }
 { boxes := [some [.tup [.int .i64 104, .agg []]], some (qC op param kind t n l), some [.int .i64 0, .int .i64 0, .str []], some (ceC y.snd)], live := [] } ∧
 ((1 : Nat) ≤ y.fst ∧ y.fst ≤ l.length ∧ l[(0 : Nat)]? = some y.snd) ∧
 l.length - y.fst < l.length - x.fst) ∧
 (decide ((↑x.fst : Int) < (↑l.length : Int)) = false →
 ∃ (n : Int) (b : Bool),
 CallIs
 (tbl [(112, s66), (114, s68)] 114
 [.sl 2 (bksL (mrgB (List.take x.fst l))) .no, .int .i64 param])
 (AV.tup [.int .i64 n, .bool b]) [] ∧
 (b = true →
 ((kind == (2 : Int)) = true →
 RetIs (AV.agg [.int .i64 2, .int .i64 n, .str []]) [] (r, [])) ∧
 ((kind == (2 : Int)) = false →
 RetIs (AV.agg [.int .i64 3, .int .i64 n, .str []]) [] (r, []))) ∧
 (b = false → RetIs (AV.agg [.int .i64 0, .int .i64 0, .str []]) [] (r, [])))) ∧
  (decide ((0 : Int) < (↑(cesL l).length : Int)) = false →
    ∃ (n : Int) (b : Bool),
        CallIs (some (AV.tup [.int .i64 ((quantile [] param).getD (0 : Int)), .bool (quantile [] param).isSome], []))
 (AV.tup [.int .i64 n, .bool b]) [] ∧
 (b = true →
 ((kind == (2 : Int)) = true → RetIs (AV.agg [.int .i64 2, .int .i64 n, .str []]) [] (r, [])) ∧
 ((kind == (2 : Int)) = false → RetIs (AV.agg [.int .i64 3, .int .i64 n, .str []]) [] (r, []))) ∧
 (b = false → RetIs (AV.agg [.int .i64 0, .int .i64 0, .str []]) [] (r, [])))) := by kernel_rfl
theorem w101 (f : Bool) (op : List UInt8) (param kind t n : Int) (l : List CeI) (r : AV) : (pureW PA GA XN (tbl [(149, s104), (35, s105)]) (itbl []) (a101 f op param kind t n l) [] 146 [.agg [.bool f], .agg (qC op param kind t n l)] (r, [])) =
(((op == [(100 : UInt8), (105 : UInt8), (115 : UInt8), (116 : UInt8), (105 : UInt8), (110 : UInt8), (99 : UInt8), (116 : UInt8)]) = true →
    ∃ (n : Int),
      CallIs (tbl [(149, s104), (35, s105)] 149 [.sl 6 (cesL l) .no]) (AV.int IntKind.i64 n) [] ∧
        RetIs (AV.agg [.int .i64 2, .int .i64 n, .str []]) [] (r, [])) ∧
  ((op == [(100 : UInt8), (105 : UInt8), (115 : UInt8), (116 : UInt8), (105 : UInt8), (110 : UInt8), (99 : UInt8), (116 : UInt8)]) = false →
    (∃ (y : Nat × Bst),
        ValsAre
 [.ptr 1 0, .ptr 2 0, .ptr 3 0, .bool false, .sl 6 (cesL l) .no,
 .int .i64 (↑(cesL l).length : Int), .int .i64 0]
 [.ptr 1 0, .ptr 2 0, .ptr 3 0, .bool y.snd.f, .sl 6 (cesL l) .no,
 .int .i64 (↑l.length : Int), .int .i64 (↑y.fst : Int)] ∧
 StIs
 { boxes := [some [.tup [.int .i64 106, .agg [.bool f]]], some (qC op param kind t n l), some [.int .i64 0, .int .i64 0, .str []], some [.int .i64 0, .int .i64 0, .str []]], live := [] }
 { boxes := [some [.tup [.int .i64 106, .agg [.bool f]]], some (qC op param kind t n l), some [.int .i64 0, .int .i64 0, .str []], some [.int .i64 y.snd.k, .int .i64 y.snd.n, .str y.snd.s]], live := [] } ∧
 (y.fst ≤ l.length ∧ bestP op (itsOf (List.take y.fst l)) = y.snd) ∧ True) ∧
      ∀ (x : Nat × Bst),
        x.fst ≤ l.length ∧ bestP op (itsOf (List.take x.fst l)) = x.snd →
 (x.snd.f = true →
 (decide ((↑x.fst : Int) < (↑l.length : Int)) = true →
 ((0 : Int) ≤ (↑x.fst : Int) ∧ (↑x.fst : Int) < (↑(cesL l).length : Int)) ∧
 ∃ (n_1 : Int) (n_2 : Int) (n_3 : Int) (n_4 : Int) (es : List AV) (es_1 : List AV),
 takeAt PA 42 (cesL l) (↑x.fst : Int).toNat 0 =
 some
 (AV.agg
 [.int .i64 n_1, .int .i64 n_2, .int .i64 n_3, .int .u64 n_4,
 .sl 6 es .no, .sl 2 es_1 .no]) ∧
 (∃ (y : K9),
 ValsAre
 [.ptr 1 0, .ptr 2 0, .ptr 3 0, .bool true,
 .sl 6 (cesL l) .no, .int .i64 (↑l.length : Int), .int .i64 (↑x.fst : Int),
 .sl 6 es .no, .int .i64 (↑es.length : Int), .int .i64 0]
 [.ptr 1 0, .ptr 2 0, .ptr 3 0, .bool y.b.f,
 .sl 6 (cesL l) .no, .int .i64 (↑l.length : Int), .int .i64 (↑y.i : Int),
 .sl 6 (itsL y.c.st.its) .no, .int .i64 (↑y.c.st.its.length : Int),
 .int .i64 (↑y.j : Int)] ∧
 StIs
 { boxes := [some [.tup [.int .i64 106, .agg [.bool f]]], some (qC op param kind t n l), some [.int .i64 0, .int .i64 0, .str []], some [.int .i64 x.snd.k, .int .i64 x.snd.n, .str x.snd.s], some [.int .i64 n_1, .int .i64 n_2, .int .i64 n_3, .int .u64 n_4, .sl 6 es .no, .sl 2 es_1 .no]], live := [] }
 { boxes := [some [.tup [.int .i64 106, .agg [.bool f]]], some (qC op param kind t n l), some [.int .i64 0, .int .i64 0, .str []], some [.int .i64 y.b.k, .int .i64 y.b.n, .str y.b.s], some (ceC y.c)], live := [] } ∧
 (l[y.i]? = some y.c ∧
 y.j ≤ y.c.st.its.length ∧ bestP op (itsOf (List.take y.i l) ++ List.take y.j y.c.st.its) = y.b) ∧
 some (AV.int IntKind.i64 (↑x.fst : Int)) = some (AV.int IntKind.i64 (↑y.i : Int))) ∧
 ∀ (x_1 : K9),
 l[x_1.i]? = some x_1.c ∧
 x_1.j ≤ x_1.c.st.its.length ∧ bestP op (itsOf (List.take x_1.i l) ++ List.take x_1.j x_1.c.st.its) = x_1.b →
 some (AV.int IntKind.i64 (↑x.fst : Int)) = some (AV.int IntKind.i64 (↑x_1.i : Int)) →
 (x_1.b.f = true →
 (decide ((↑x_1.j : Int) < (↑x_1.c.st.its.length : Int)) = true →
 ((0 : Int) ≤ (↑x_1.j : Int) ∧ (↑x_1.j : Int) < (↑(itsL x_1.c.st.its).length : Int)) ∧
 ∃ (n_5 : Int) (n_6 : Int) (s : List UInt8) (s_1 : List UInt8) (n_7 : Int) (n_8 : Int),
 takeAt PA 51 (itsL x_1.c.st.its) (↑x_1.j : Int).toNat 0 =
 some
 (AV.agg
 [.int .i64 n_5, .int .i64 n_6, .str s, .str s_1,
 .int .i64 n_7, .int .i64 n_8]) ∧
 (decide (n_8 ≤ (0 : Int)) = true →
 ∃ (y : K9),
 ValsAre
 [.ptr 1 0, .ptr 2 0,
 .ptr 3 0, .bool true, .sl 6 (cesL l) .no,
 .int .i64 (↑l.length : Int), .int .i64 (↑x_1.i : Int),
 .sl 6 (itsL x_1.c.st.its) .no,
 .int .i64 (↑x_1.c.st.its.length : Int),
 .int .i64 (IntKind.i64.wrap ((↑x_1.j : Int) + (1 : Int)))]
 [.ptr 1 0, .ptr 2 0,
 .ptr 3 0, .bool y.b.f, .sl 6 (cesL l) .no,
 .int .i64 (↑l.length : Int), .int .i64 (↑y.i : Int),
 .sl 6 (itsL y.c.st.its) .no,
 .int .i64 (↑y.c.st.its.length : Int), .int .i64 (↑y.j : Int)] ∧
 StIs
 { boxes := [some [.tup [.int .i64 106, .agg [.bool f]]], some (qC op param kind t n l), some [.int .i64 0, .int .i64 0, .str []], some [.int .i64 x_1.b.k, .int .i64 x_1.b.n, .str x_1.b.s], some (ceC x_1.c)], live := [] }
 { boxes := [some [.tup [.int .i64 106, .agg [.bool f]]], some (qC op param kind t n l), some [.int .i64 0, .int .i64 0, .str []], some [.int .i64 y.b.k, .int .i64 y.b.n, .str y.b.s], some (ceC y.c)], live := [] } ∧
 (l[y.i]? = some y.c ∧
 y.j ≤ y.c.st.its.length ∧
 bestP op (itsOf (List.take y.i l) ++ List.take y.j y.c.st.its) = y.b) ∧
 some (AV.int IntKind.i64 (↑x.fst : Int)) =
 some (AV.int IntKind.i64 (↑y.i : Int)) ∧
 y.c.st.its.length - y.j < x_1.c.st.its.length - x_1.j) ∧
 (decide (n_8 ≤ (0 : Int)) = false →
 ∃ (n_9 : Int),
 CallIs (some (AV.int IntKind.i64 (cmpV n_5 n_6 s x_1.b.k x_1.b.n x_1.b.s), []))
 (AV.int IntKind.i64 n_9) [] ∧
 ((op == [(108 : UInt8), (97 : UInt8), (115 : UInt8), (116 : UInt8)]) = true →
 ∃ (y : K9),
 ValsAre
 [.ptr 1 0, .ptr 2 0,
 .ptr 3 0, .bool true,
 .sl 6 (cesL l) .no, .int .i64 (↑l.length : Int),
 .int .i64 (↑x_1.i : Int),
 .sl 6 (itsL x_1.c.st.its) .no,
 .int .i64 (↑x_1.c.st.its.length : Int),
 .int .i64 (IntKind.i64.wrap ((↑x_1.j : Int) + (1 : Int)))]
 [.ptr 1 0, .ptr 2 0,
 .ptr 3 0, .bool y.b.f,
 .sl 6 (cesL l) .no, .int .i64 (↑l.length : Int),
 .int .i64 (↑y.i : Int),
 .sl 6 (itsL y.c.st.its) .no,
 .int .i64 (↑y.c.st.its.length : Int),
 .int .i64 (↑y.j : Int)] ∧
 StIs
 { boxes := [some [.tup [.int .i64 106, .agg [.bool f]]], some (qC op param kind t n l), some [.int .i64 0, .int .i64 0, .str []], some [.int .i64 n_5, .int .i64 n_6, .str s], some (ceC x_1.c)], live := [] }
 { boxes := [some [.tup [.int .i64 106, .agg [.bool f]]], some (qC op param kind t n l), some [.int .i64 0, .int .i64 0, .str []], some [.int .i64 y.b.k, .int .i64 y.b.n, .str y.b.s], some (ceC y.c)], live := [] } ∧
 (l[y.i]? = some y.c ∧
 y.j ≤ y.c.st.its.length ∧
 bestP op (itsOf (List.take y.i l) ++ List.take y.j y.c.st.its) =
 y.b) ∧
 some (AV.int IntKind.i64 (↑x.fst : Int)) =
 some (AV.int IntKind.i64 (↑y.i : Int)) ∧
 y.c.st.its.length - y.j < x_1.c.st.its.length - x_1.j) ∧
 ((op == [(108 : UInt8), (97 : UInt8), (115 : UInt8), (116 : UInt8)]) = false →
 ((op == [(109 : UInt8), (105 : UInt8), (110 : UInt8)]) = true →
 (decide (n_9 < (0 : Int)) = true →
 ∃ (y : K9),
 ValsAre
 [.ptr 1 0, .ptr 2 0,
 .ptr 3 0, .bool true,
 .sl 6 (cesL l) .no,
 .int .i64 (↑l.length : Int),
 .int .i64 (↑x_1.i : Int),
 .sl 6 (itsL x_1.c.st.its) .no,
 .int .i64 (↑x_1.c.st.its.length : Int),
 .int .i64
 (IntKind.i64.wrap ((↑x_1.j : Int) + (1 : Int)))]
 [.ptr 1 0, .ptr 2 0,
 .ptr 3 0, .bool y.b.f,
 .sl 6 (cesL l) .no,
 .int .i64 (↑l.length : Int),
 .int .i64 (↑y.i : Int),
 .sl 6 (itsL y.c.st.its) .no,
 .int .i64 (↑y.c.st.its.length : Int),
 .int .i64 (↑y.j : Int)] ∧
 StIs
 { boxes := [some [.tup [.int .i64 106, .agg [.bool f]]], some (qC op param kind t n l), some [.int .i64 0, .int .i64 0, .str []], some [.int .i64 n_5, .int .i64 n_6, .str s], some (ceC x_1.c)], live := [] }
 { boxes := [some [.tup [.int .i64 106, .agg [.bool f]]], some (qC op param kind t n l), some [.int .i64 0, .int .i64 0, .str []], some [.int .i64 y.b.k, .int .i64 y.b.n, .str y.b.s], some (ceC y.c)], live := [] } ∧
 (l[y.i]? = some y.c ∧
 y.j ≤ y.c.st.its.length ∧
 bestP op
 (itsOf (List.take y.i l) ++ List.take y.j y.c.st.its) =
 y.b) ∧
 some (AV.int IntKind.i64 (↑x.fst : Int)) =
 some (AV.int IntKind.i64 (↑y.i : Int)) ∧
 y.c.st.its.length - y.j < x_1.c.st.its.length - x_1.j) ∧
 (decide (n_9 < (0 : Int)) = false →
 ((op == [(109 : UInt8), (97 : UInt8), (120 : UInt8)]) = true →
 (decide (n_9 > (0 : Int)) = true →
 ∃ (y : K9),
 ValsAre
 [.ptr 1 0,
 .ptr 2 0,
 .ptr 3 0, .bool true,
 .sl 6 (cesL l) .no,
 .int .i64 (↑l.length : Int),
 .int .i64 (↑x_1.i : Int),
 .sl 6 (itsL x_1.c.st.its) .no,
 .int .i64 (↑x_1.c.st.its.length : Int),
 .int .i64
 (IntKind.i64.wrap ((↑x_1.j : Int) + (1 : Int)))]
 [.ptr 1 0,
 .ptr 2 0,
 .ptr 3 0, .bool y.b.f,
 .sl 6 (cesL l) .no,
 .int .i64 (↑l.length : Int),
 .int .i64 (↑y.i : Int),
 .sl 6 (itsL y.c.st.its) .no,
 .int .i64 (↑y.c.st.its.length : Int),
 .int .i64 (↑y.j : Int)] ∧
 StIs
 { boxes := [some [.tup [.int .i64 106, .agg [.bool f]]], some (qC op param kind t n l), some [.int .i64 0, .int .i64 0, .str []], some [.int .i64 n_5, .int .i64 n_6, .str s], some (ceC x_1.c)], live := [] }
 { boxes := [some [.tup [.int .i64 106, .agg [.bool f]]], some (qC op param kind t n l), some [.int .i64 0, .int .i64 0, .str []], some [.int .i64 y.b.k, .int .i64 y.b.n, .str y.b.s], some (ceC y.c)], live := [] } ∧
 (l[y.i]? = some y.c ∧
 y.j ≤ y.c.st.its.length ∧
 bestP op
 (itsOf (List.take y.i l) ++
 List.take y.j y.c.st.its) =
 y.b) ∧
 some (AV.int IntKind.i64 (↑x.fst : Int)) =
 some (AV.int IntKind.i64 (↑y.i : Int)) ∧
 y.c.st.its.length - y.j < x_1.c.st.its.length - x_1.j) ∧
 (decide (n_9 > (0 : Int)) = false →
 ∃ (y : K9),
 ValsAre
 [.ptr 1 0,
 .ptr 2 0,
 .ptr 3 0, .bool true,
 .sl 6 (cesL l) .no,
 .int .i64 (↑l.length : Int),
 .int .i64 (↑x_1.i : Int),
 .sl 6 (itsL x_1.c.st.its) .no,
 .int .i64 (↑x_1.c.st.its.length : Int),
 .int .i64
 (IntKind.i64.wrap ((↑x_1.j : Int) + (1 : Int)))]
 [.ptr 1 0,
 .ptr 2 0,
 .ptr 3 0, .bool y.b.f,
 .sl 6 (cesL l) .no,
 .int .i64 (↑l.length : Int),
 .int .i64 (↑y.i : Int),
 .sl 6 (itsL y.c.st.its) .no,
 .int .i64 (↑y.c.st.its.length : Int),
 .int .i64 (↑y.j : Int)] ∧
 StIs
 { boxes := [some [.tup [.int .i64 106, .agg [.bool f]]], some (qC op param kind t n l), some [.int .i64 0, .int .i64 0, .str []], some [.int .i64 x_1.b.k, .int .i64 x_1.b.n, .str x_1.b.s], some (ceC x_1.c)], live := [] }
 { boxes := [some [.tup [.int .i64 106, .agg [.bool f]]], some (qC op param kind t n l), some [.int .i64 0, .int .i64 0, .str []], some [.int .i64 y.b.k, .int .i64 y.b.n, .str y.b.s], some (ceC y.c)], live := [] } ∧
 (l[y.i]? = some y.c ∧
 y.j ≤ y.c.st.its.length ∧
 bestP op
 (itsOf (List.take y.i l) ++
 List.take y.j y.c.st.its) =
 y.b) ∧
 some (AV.int IntKind.i64 (↑x.fst : Int)) =
 some (AV.int IntKind.i64 (↑y.i : Int)) ∧
 y.c.st.its.length - y.j <
 x_1.c.st.its.length - x_1.j)) ∧
 ((op == [(109 : UInt8), (97 : UInt8), (120 : UInt8)]) = false →
 ∃ (y : K9),
 ValsAre
 [.ptr 1 0, .ptr 2 0,
 .ptr 3 0, .bool true,
 .sl 6 (cesL l) .no,
 .int .i64 (↑l.length : Int),
 .int .i64 (↑x_1.i : Int),
 .sl 6 (itsL x_1.c.st.its) .no,
 .int .i64 (↑x_1.c.st.its.length : Int),
 .int .i64
 (IntKind.i64.wrap ((↑x_1.j : Int) + (1 : Int)))]
 [.ptr 1 0, .ptr 2 0,
 .ptr 3 0, .bool y.b.f,
 .sl 6 (cesL l) .no,
 .int .i64 (↑l.length : Int),
 .int .i64 (↑y.i : Int),
 .sl 6 (itsL y.c.st.its) .no,
 .int .i64 (↑y.c.st.its.length : Int),
 .int .i64 (↑y.j : Int)] ∧
 StIs
 { boxes := [some [.tup [.int .i64 106, .agg [.bool f]]], some (qC op param kind t n l), some [.int .i64 0, .int .i64 0, .str []], some [.int .i64 x_1.b.k, .int .i64 x_1.b.n, .str x_1.b.s], some (ceC x_1.c)], live := [] }
 { boxes := [some [.tup [.int .i64 106, .agg [.bool f]]], some (qC op param kind t n l), some [.int .i64 0, .int .i64 0, .str []], some [.int .i64 y.b.k, .int .i64 y.b.n, .str y.b.s], some (ceC y.c)], live := [] } ∧
 (l[y.i]? = some y.c ∧
 y.j ≤ y.c.st.its.length ∧
 bestP op
 (itsOf (List.take y.i l) ++
 List.take y.j y.c.st.its) =
 y.b) ∧
 some (AV.int IntKind.i64 (↑x.fst : Int)) =
 some (AV.int IntKind.i64 (↑y.i : Int)) ∧
 y.c.st.its.length - y.j < x_1.c.st.its.length - x_1.j))) ∧
 ((op == [(109 : UInt8), (105 : UInt8), (110 : UInt8)]) = false →
 ((op == [(109 : UInt8), (97 : UInt8), (120 : UInt8)]) = true →
 (decide (n_9 > (0 : Int)) = true →
 ∃ (y : K9),
 ValsAre
 [.ptr 1 0, .ptr 2 0,
 .ptr 3 0, .bool true,
 .sl 6 (cesL l) .no,
 .int .i64 (↑l.length : Int),
 .int .i64 (↑x_1.i : Int),
 .sl 6 (itsL x_1.c.st.its) .no,
 .int .i64 (↑x_1.c.st.its.length : Int),
 .int .i64
 (IntKind.i64.wrap ((↑x_1.j : Int) + (1 : Int)))]
 [.ptr 1 0, .ptr 2 0,
 .ptr 3 0, .bool y.b.f,
 .sl 6 (cesL l) .no,
 .int .i64 (↑l.length : Int),
 .int .i64 (↑y.i : Int),
 .sl 6 (itsL y.c.st.its) .no,
 .int .i64 (↑y.c.st.its.length : Int),
 .int .i64 (↑y.j : Int)] ∧
 StIs
 { boxes := [some [.tup [.int .i64 106, .agg [.bool f]]], some (qC op param kind t n l), some [.int .i64 0, .int .i64 0, .str []], some [.int .i64 n_5, .int .i64 n_6, .str s], some (ceC x_1.c)], live := [] }
 { boxes := [some [.tup [.int .i64 106, .agg [.bool f]]], some (qC op param kind t n l), some [.int .i64 0, .int .i64 0, .str []], some [.int .i64 y.b.k, .int .i64 y.b.n, .str y.b.s], some (ceC y.c)], live := [] } ∧
 (l[y.i]? = some y.c ∧
 y.j ≤ y.c.st.its.length ∧
 bestP op
 (itsOf (List.take y.i l) ++
 List.take y.j y.c.st.its) =
 y.b) ∧
 some (AV.int IntKind.i64 (↑x.fst : Int)) =
 some (AV.int IntKind.i64 (↑y.i : Int)) ∧
 y.c.st.its.length - y.j < x_1.c.st.its.length - x_1.j) ∧
 (decide (n_9 > (0 : Int)) = false →
 ∃ (y : K9),
 ValsAre
 [.ptr 1 0, .ptr 2 0,
 .ptr 3 0, .bool true,
 .sl 6 (cesL l) .no,
 .int .i64 (↑l.length : Int),
 .int .i64 (↑x_1.i : Int),
 .sl 6 (itsL x_1.c.st.its) .no,
 .int .i64 (↑x_1.c.st.its.length : Int),
 .int .i64
 (IntKind.i64.wrap ((↑x_1.j : Int) + (1 : Int)))]
 [.ptr 1 0, .ptr 2 0,
 .ptr 3 0, .bool y.b.f,
 .sl 6 (cesL l) .no,
 .int .i64 (↑l.length : Int),
 .int .i64 (↑y.i : Int),
 .sl 6 (itsL y.c.st.its) .no,
 .int .i64 (↑y.c.st.its.length : Int),
 .int .i64 (↑y.j : Int)] ∧
 StIs
 { boxes := [some [.tup [.int .i64 106, .agg [.bool f]]], some (qC op param kind t n l), some [.int .i64 0, .int .i64 0, .str []], some [.int .i64 x_1.b.k, .int .i64 x_1.b.n, .str x_1.b.s], some (ceC x_1.c)], live := [] }
 { boxes := [some [.tup [.int .i64 106, .agg [.bool f]]], some (qC op param kind t n l), some [.int .i64 0, .int .i64 0, .str []], some [.int .i64 y.b.k, .int .i64 y.b.n, .str y.b.s], some (ceC y.c)], live := [] } ∧
 (l[y.i]? = some y.c ∧
 y.j ≤ y.c.st.its.length ∧
 bestP op
 (itsOf (List.take y.i l) ++
 List.take y.j y.c.st.its) =
 y.b) ∧
 some (AV.int IntKind.i64 (↑x.fst : Int)) =
 some (AV.int IntKind.i64 (↑y.i : Int)) ∧
 y.c.st.its.length - y.j < x_1.c.st.its.length - x_1.j)) ∧
 ((op == [(109 : UInt8), (97 : UInt8), (120 : UInt8)]) = false →
 ∃ (y : K9),
 ValsAre
 [.ptr 1 0, .ptr 2 0,
 .ptr 3 0, .bool true,
 .sl 6 (cesL l) .no,
 .int .i64 (↑l.length : Int),
 .int .i64 (↑x_1.i : Int),
 .sl 6 (itsL x_1.c.st.its) .no,
 .int .i64 (↑x_1.c.st.its.length : Int),
 .int .i64
 (IntKind.i64.wrap ((↑x_1.j : Int) + (1 : Int)))]
 [.ptr 1 0, .ptr 2 0,
 .ptr 3 0, .bool y.b.f,
 .sl 6 (cesL l) .no,
 .int .i64 (↑l.length : Int),
 .int .i64 (↑y.i : Int),
 .sl 6 (itsL y.c.st.its) .no,
 .int .i64 (↑y.c.st.its.length : Int),
 .int .i64 (↑y.j : Int)] ∧
 StIs
 { boxes := [some [.tup [.int .i64 106, .agg [.bool f]]], some (qC op param kind t n l), some [.int .i64 0, .int .i64 0, .str []], some [.int .i64 x_1.b.k, .int .i64 x_1.b.n, .str x_1.b.s], some (ceC x_1.c)], live := [] }
 { boxes := [some [.tup [.int .i64 106, .agg [.bool f]]], some (qC op param kind t n l), some [.int .i64 0, .int .i64 0, .str []], some [.int .i64 y.b.k, .int .i64 y.b.n, .str y.b.s], some (ceC y.c)], live := [] } ∧
 (l[y.i]? = some y.c ∧
 y.j ≤ y.c.st.its.length ∧
 bestP op
 (itsOf (List.take y.i l) ++ List.take y.j y.c.st.its) =
 y.b) ∧
 some (AV.int IntKind.i64 (↑x.fst : Int)) =
 some (AV.int IntKind.i64 (↑y.i : Int)) ∧
 y.c.st.its.length - y.j < x_1.c.st.its.length - x_1.j))))) ∧
 (decide ((↑x_1.j : Int) < (↑x_1.c.st.its.length : Int)) = false →
 ∃ (y : Nat × Bst),
 ValsAre
 [.ptr 1 0, .ptr 2 0, .ptr 3 0,
 .bool true, .sl 6 (cesL l) .no, .int .i64 (↑l.length : Int),
 .int .i64 (IntKind.i64.wrap ((↑x_1.i : Int) + (1 : Int)))]
 [.ptr 1 0, .ptr 2 0, .ptr 3 0,
 .bool y.snd.f, .sl 6 (cesL l) .no, .int .i64 (↑l.length : Int),
 .int .i64 (↑y.fst : Int)] ∧
 StIs
 { boxes := [some [.tup [.int .i64 106, .agg [.bool f]]], some (qC op param kind t n l), some [.int .i64 0, .int .i64 0, .str []], some [.int .i64 x_1.b.k, .int .i64 x_1.b.n, .str x_1.b.s]], live := [] }
 { boxes := [some [.tup [.int .i64 106, .agg [.bool f]]], some (qC op param kind t n l), some [.int .i64 0, .int .i64 0, .str []], some [.int .i64 y.snd.k, .int .i64 y.snd.n, .str y.snd.s]], live := [] } ∧
 (y.fst ≤ l.length ∧ bestP op (itsOf (List.take y.fst l)) = y.snd) ∧
 l.length - y.fst < l.length - x.fst)) ∧
 (x_1.b.f = false →
 (decide ((↑x_1.j : Int) < (↑x_1.c.st.its.length : Int)) = true →
 ((0 : Int) ≤ (↑x_1.j : Int) ∧ (↑x_1.j : Int) < (↑(itsL x_1.c.st.its).length : Int)) ∧
 ∃ (n_5 : Int) (n_6 : Int) (s : List UInt8) (s_1 : List UInt8) (n_7 : Int) (n_8 : Int),
 takeAt PA 51 (itsL x_1.c.st.its) (↑x_1.j : Int).toNat 0 =
 some
 (AV.agg
 [.int .i64 n_5, .int .i64 n_6, .str s, .str s_1,
 .int .i64 n_7, .int .i64 n_8]) ∧
 (decide (n_8 ≤ (0 : Int)) = true →
 ∃ (y : K9),
 ValsAre
 [.ptr 1 0, .ptr 2 0,
 .ptr 3 0, .bool false, .sl 6 (cesL l) .no,
 .int .i64 (↑l.length : Int), .int .i64 (↑x_1.i : Int),
 .sl 6 (itsL x_1.c.st.its) .no,
 .int .i64 (↑x_1.c.st.its.length : Int),
 .int .i64 (IntKind.i64.wrap ((↑x_1.j : Int) + (1 : Int)))]
 [.ptr 1 0, .ptr 2 0,
 .ptr 3 0, .bool y.b.f, .sl 6 (cesL l) .no,
 .int .i64 (↑l.length : Int), .int .i64 (↑y.i : Int),
 .sl 6 (itsL y.c.st.its) .no,
 .int .i64 (↑y.c.st.its.length : Int), .int .i64 (↑y.j : Int)] ∧
 StIs
 { boxes := [some [.tup [.int .i64 106, .agg [.bool f]]], some (qC op param kind t n l), some [.int .i64 0, .int .i64 0, .str []], some [.int .i64 x_1.b.k, .int .i64 x_1.b.n, .str x_1.b.s], some (ceC x_1.c)], live := [] }
 { boxes := [some [.tup [.int .i64 106, .agg [.bool f]]], some (qC op param kind t n l), some [.int .i64 0, .int .i64 0, .str []], some [.int .i64 y.b.k, .int .i64 y.b.n, .str y.b.s], some (ceC y.c)], live := [] } ∧
 (l[y.i]? = some y.c ∧
 y.j ≤ y.c.st.its.length ∧
 bestP op (itsOf (List.take y.i l) ++ List.take y.j y.c.st.its) = y.b) ∧
 some (AV.int IntKind.i64 (↑x.fst : Int)) =
 some (AV.int IntKind.i64 (↑y.i : Int)) ∧
 y.c.st.its.length - y.j < x_1.c.st.its.length - x_1.j) ∧
 (decide (n_8 ≤ (0 : Int)) = false →
 ∃ (n_9 : Int),
 CallIs (some (AV.int IntKind.i64 (cmpV n_5 n_6 s x_1.b.k x_1.b.n x_1.b.s), []))
 (AV.int IntKind.i64 n_9) [] ∧
 ∃ (y : K9),
 ValsAre
 [.ptr 1 0, .ptr 2 0,
 .ptr 3 0, .bool true,
 .sl 6 (cesL l) .no, .int .i64 (↑l.length : Int),
 .int .i64 (↑x_1.i : Int),
 .sl 6 (itsL x_1.c.st.its) .no,
 .int .i64 (↑x_1.c.st.its.length : Int),
 .int .i64 (IntKind.i64.wrap ((↑x_1.j : Int) + (1 : Int)))]
 [.ptr 1 0, .ptr 2 0,
 .ptr 3 0, .bool y.b.f,
 .sl 6 (cesL l) .no, .int .i64 (↑l.length : Int),
 .int .i64 (↑y.i : Int), .sl 6 (itsL y.c.st.its) .no,
 .int .i64 (↑y.c.st.its.length : Int),
 .int .i64 (↑y.j : Int)] ∧
 StIs
 { boxes := [some [.tup [.int .i64 106, .agg [.bool f]]], some (qC op param kind t n l), some [.int .i64 0, .int .i64 0, .str []], some [.int .i64 n_5, .int .i64 n_6, .str s], some (ceC x_1.c)], live := [] }
 { boxes := [some [.tup [.int .i64 106, .agg [.bool f]]], some (qC op param kind t n l), some [.int .i64 0, .int .i64 0, .str []], some [.int .i64 y.b.k, .int .i64 y.b.n, .str y.b.s], some (ceC y.c)], live := [] } ∧
 (l[y.i]? = some y.c ∧
 y.j ≤ y.c.st.its.length ∧
 bestP op (itsOf (List.take y.i l) ++ List.take y.j y.c.st.its) = y.b) ∧
 some (AV.int IntKind.i64 (↑x.fst : Int)) =
 some (AV.int IntKind.i64 (↑y.i : Int)) ∧
 y.c.st.its.length - y.j < x_1.c.st.its.length - x_1.j)) ∧
 (decide ((↑x_1.j : Int) < (↑x_1.c.st.its.length : Int)) = false →
 ∃ (y : Nat × Bst),
 ValsAre
 [.ptr 1 0, .ptr 2 0, .ptr 3 0,
 .bool false, .sl 6 (cesL l) .no, .int .i64 (↑l.length : Int),
 .int .i64 (IntKind.i64.wrap ((↑x_1.i : Int) + (1 : Int)))]
 [.ptr 1 0, .ptr 2 0, .ptr 3 0,
 .bool y.snd.f, .sl 6 (cesL l) .no, .int .i64 (↑l.length : Int),
 .int .i64 (↑y.fst : Int)] ∧
 StIs
 { boxes := [some [.tup [.int .i64 106, .agg [.bool f]]], some (qC op param kind t n l), some [.int .i64 0, .int .i64 0, .str []], some [.int .i64 x_1.b.k, .int .i64 x_1.b.n, .str x_1.b.s]], live := [] }
 { boxes := [some [.tup [.int .i64 106, .agg [.bool f]]], some (qC op param kind t n l), some [.int .i64 0, .int .i64 0, .str []], some [.int .i64 y.snd.k, .int .i64 y.snd.n, .str y.snd.s]], live := [] } ∧
 (y.fst ≤ l.length ∧ bestP op (itsOf (List.take y.fst l)) = y.snd) ∧
 l.length - y.fst < l.length - x.fst))) ∧
 (decide ((↑x.fst : Int) < (↑l.length : Int)) = false →
 RetIs (AV.agg [.int .i64 x.snd.k, .int .i64 x.snd.n, .str x.snd.s]) [] (r, []))) ∧
 (x.snd.f = false →
 (decide ((↑x.fst : Int) < (↑l.length : Int)) = true →
 ((0 : Int) ≤ (↑x.fst : Int) ∧ (↑x.fst : Int) < (↑(cesL l).length : Int)) ∧
 ∃ (n_1 : Int) (n_2 : Int) (n_3 : Int) (n_4 : Int) (es : List AV) (es_1 : List AV),
 takeAt PA 42 (cesL l) (↑x.fst : Int).toNat 0 =
 some
 (AV.agg
 [.int .i64 n_1, .int .i64 n_2, .int .i64 n_3, .int .u64 n_4,
 .sl 6 es .no, .sl 2 es_1 .no]) ∧
 (∃ (y : K9),
 ValsAre
 [.ptr 1 0, .ptr 2 0, .ptr 3 0, .bool false,
 .sl 6 (cesL l) .no, .int .i64 (↑l.length : Int), .int .i64 (↑x.fst : Int),
 .sl 6 es .no, .int .i64 (↑es.length : Int), .int .i64 0]
 [.ptr 1 0, .ptr 2 0, .ptr 3 0, .bool y.b.f,
 .sl 6 (cesL l) .no, .int .i64 (↑l.length : Int), .int .i64 (↑y.i : Int),
 .sl 6 (itsL y.c.st.its) .no, .int .i64 (↑y.c.st.its.length : Int),
 .int .i64 (↑y.j : Int)] ∧
 StIs
 { boxes := [some [.tup [.int .i64 106, .agg [.bool f]]], some (qC op param kind t n l), some [.int .i64 0, .int .i64 0, .str []], some [.int .i64 x.snd.k, .int .i64 x.snd.n, .str x.snd.s], some [.int .i64 n_1, .int .i64 n_2, .int .i64 n_3, .int .u64 n_4, .sl 6 es .no, .sl 2 es_1 .no]], live := [] }
 { boxes := [some [.tup [.int .i64 106, .agg [.bool f]]], some (qC op param kind t n l), some [.int .i64 0, .int .i64 0, .str []], some [.int .i64 y.b.k, .int .i64 y.b.n, .str y.b.s], some (ceC y.c)], live := [] } ∧
 (l[y.i]? = some y.c ∧
 y.j ≤ y.c.st.its.length ∧ bestP op (itsOf (List.take y.i l) ++ List.take y.j y.c.st.its) = y.b) ∧
 some (AV.int IntKind.i64 (↑x.fst : Int)) = some (AV.int IntKind.i64 (↑y.i : Int))) ∧
 ∀ (x_1 : K9),
 l[x_1.i]? = some x_1.c ∧
 x_1.j ≤ x_1.c.st.its.length ∧ bestP op (itsOf (List.take x_1.i l) ++ List.take x_1.j x_1.c.st.its) = x_1.b →
 some (AV.int IntKind.i64 (↑x.fst : Int)) = some (AV.int IntKind.i64 (↑x_1.i : Int)) →
 (x_1.b.f = true →
 (decide ((↑x_1.j : Int) < (↑x_1.c.st.its.length : Int)) = true →
 ((0 : Int) ≤ (↑x_1.j : Int) ∧ (↑x_1.j : Int) < (↑(itsL x_1.c.st.its).length : Int)) ∧
 ∃ (n_5 : Int) (n_6 : Int) (s : List UInt8) (s_1 : List UInt8) (n_7 : Int) (n_8 : Int),
 takeAt PA 51 (itsL x_1.c.st.its) (↑x_1.j : Int).toNat 0 =
 some
 (AV.agg
 [.int .i64 n_5, .int .i64 n_6, .str s, .str s_1,
 .int .i64 n_7, .int .i64 n_8]) ∧
 (decide (n_8 ≤ (0 : Int)) = true →
 ∃ (y : K9),
 ValsAre
 [.ptr 1 0, .ptr 2 0,
 .ptr 3 0, .bool true, .sl 6 (cesL l) .no,
 .int .i64 (↑l.length : Int), .int .i64 (↑x_1.i : Int),
 .sl 6 (itsL x_1.c.st.its) .no,
 .int .i64 (↑x_1.c.st.its.length : Int),
 .int .i64 (IntKind.i64.wrap ((↑x_1.j : Int) + (1 : Int)))]
 [.ptr 1 0, .ptr 2 0,
 .ptr 3 0, .bool y.b.f, .sl 6 (cesL l) .no,
 .int .i64 (↑l.length : Int), .int .i64 (↑y.i : Int),
 .sl 6 (itsL y.c.st.its) .no,
 .int .i64 (↑y.c.st.its.length : Int), .int .i64 (↑y.j : Int)] ∧
 StIs
 { boxes := [some [.tup [.int .i64 106, .agg [.bool f]]], some (qC op param kind t n l), some [.int .i64 0, .int .i64 0, .str []], some [.int .i64 x_1.b.k, .int .i64 x_1.b.n, .str x_1.b.s], some (ceC x_1.c)], live := [] }
 { boxes := [some [.tup [.int .i64 106, .agg [.bool f]]], some (qC op param kind t n l), some [.int .i64 0, .int .i64 0, .str []], some [.int .i64 y.b.k, .int .i64 y.b.n, .str y.b.s], some (ceC y.c)], live := [] } ∧
 (l[y.i]? = some y.c ∧
 y.j ≤ y.c.st.its.length ∧
 bestP op (itsOf (List.take y.i l) ++ List.take y.j y.c.st.its) = y.b) ∧
 some (AV.int IntKind.i64 (↑x.fst : Int)) =
 some (AV.int IntKind.i64 (↑y.i : Int)) ∧
 y.c.st.its.length - y.j < x_1.c.st.its.length - x_1.j) ∧
 (decide (n_8 ≤ (0 : Int)) = false →
 ∃ (n_9 : Int),
 CallIs (some (AV.int IntKind.i64 (cmpV n_5 n_6 s x_1.b.k x_1.b.n x_1.b.s), []))
 (AV.int IntKind.i64 n_9) [] ∧
 ((op == [(108 : UInt8), (97 : UInt8), (115 : UInt8), (116 : UInt8)]) = true →
 ∃ (y : K9),
 ValsAre
 [.ptr 1 0, .ptr 2 0,
 .ptr 3 0, .bool true,
 .sl 6 (cesL l) .no, .int .i64 (↑l.length : Int),
 .int .i64 (↑x_1.i : Int),
 .sl 6 (itsL x_1.c.st.its) .no,
 .int .i64 (↑x_1.c.st.its.length : Int),
 .int .i64 (IntKind.i64.wrap ((↑x_1.j : Int) + (1 : Int)))]
 [.ptr 1 0, .ptr 2 0,
 .ptr 3 0, .bool y.b.f,
 .sl 6 (cesL l) .no, .int .i64 (↑l.length : Int),
 .int .i64 (↑y.i : Int),
 .sl 6 (itsL y.c.st.its) .no,
 .int .i64 (↑y.c.st.its.length : Int),
 .int .i64 (↑y.j : Int)] ∧
 StIs
 { boxes := [some [.tup [.int .i64 106, .agg [.bool f]]], some (qC op param kind t n l), some [.int .i64 0, .int .i64 0, .str []], some [.int .i64 n_5, .int .i64 n_6, .str s], some (ceC x_1.c)], live := [] }
 { boxes := [some [.tup [.int .i64 106, .agg [.bool f]]], some (qC op param kind t n l), some [.int .i64 0, .int .i64 0, .str []], some [.int .i64 y.b.k, .int .i64 y.b.n, .str y.b.s], some (ceC y.c)], live := [] } ∧
 (l[y.i]? = some y.c ∧
 y.j ≤ y.c.st.its.length ∧
 bestP op (itsOf (List.take y.i l) ++ List.take y.j y.c.st.its) =
 y.b) ∧
 some (AV.int IntKind.i64 (↑x.fst : Int)) =
 some (AV.int IntKind.i64 (↑y.i : Int)) ∧
 y.c.st.its.length - y.j < x_1.c.st.its.length - x_1.j) ∧
 ((op == [(108 : UInt8), (97 : UInt8), (115 : UInt8), (116 : UInt8)]) = false →
 ((op == [(109 : UInt8), (105 : UInt8), (110 : UInt8)]) = true →
 (decide (n_9 < (0 : Int)) = true →
 ∃ (y : K9),
 ValsAre
 [.ptr 1 0, .ptr 2 0,
 .ptr 3 0, .bool true,
 .sl 6 (cesL l) .no,
 .int .i64 (↑l.length : Int),
 .int .i64 (↑x_1.i : Int),
 .sl 6 (itsL x_1.c.st.its) .no,
 .int .i64 (↑x_1.c.st.its.length : Int),
 .int .i64
 (IntKind.i64.wrap ((↑x_1.j : Int) + (1 : Int)))]
 [.ptr 1 0, .ptr 2 0,
 .ptr 3 0, .bool y.b.f,
 .sl 6 (cesL l) .no,
 .int .i64 (↑l.length : Int),
 .int .i64 (↑y.i : Int),
 .sl 6 (itsL y.c.st.its) .no,
 .int .i64 (↑y.c.st.its.length : Int),
 .int .i64 (↑y.j : Int)] ∧
 StIs
 { boxes := [some [.tup [.int .i64 106, .agg [.bool f]]], some (qC op param kind t n l), some [.int .i64 0, .int .i64 0, .str []], some [.int .i64 n_5, .int .i64 n_6, .str s], some (ceC x_1.c)], live := [] }
 { boxes := [some [.tup [.int .i64 106, .agg [.bool f]]], some (qC op param kind t n l), some [.int .i64 0, .int .i64 0, .str []], some [.int .i64 y.b.k, .int .i64 y.b.n, .str y.b.s], some (ceC y.c)], live := [] } ∧
 (l[y.i]? = some y.c ∧
 y.j ≤ y.c.st.its.length ∧
 bestP op
 (itsOf (List.take y.i l) ++ List.take y.j y.c.st.its) =
 y.b) ∧
 some (AV.int IntKind.i64 (↑x.fst : Int)) =
 some (AV.int IntKind.i64 (↑y.i : Int)) ∧
 y.c.st.its.length - y.j < x_1.c.st.its.length - x_1.j) ∧
 (decide (n_9 < (0 : Int)) = false →
 ((op == [(109 : UInt8), (97 : UInt8), (120 : UInt8)]) = true →
 (decide (n_9 > (0 : Int)) = true →
 ∃ (y : K9),
 ValsAre
 [.ptr 1 0,
 .ptr 2 0,
 .ptr 3 0, .bool true,
 .sl 6 (cesL l) .no,
 .int .i64 (↑l.length : Int),
 .int .i64 (↑x_1.i : Int),
 .sl 6 (itsL x_1.c.st.its) .no,
 .int .i64 (↑x_1.c.st.its.length : Int),
 .int .i64
 (IntKind.i64.wrap ((↑x_1.j : Int) + (1 : Int)))]
 [.ptr 1 0,
 .ptr 2 0,
 .ptr 3 0, .bool y.b.f,
 .sl 6 (cesL l) .no,
 .int .i64 (↑l.length : Int),
 .int .i64 (↑y.i : Int),
 .sl 6 (itsL y.c.st.its) .no,
 .int .i64 (↑y.c.st.its.length : Int),
 .int .i64 (↑y.j : Int)] ∧
 StIs
 { boxes := [some [.tup [.int .i64 106, .agg [.bool f]]], some (qC op param kind t n l), some [.int .i64 0, .int .i64 0, .str []], some [.int .i64 n_5, .int .i64 n_6, .str s], some (ceC x_1.c)], live := [] }
 { boxes := [some [.tup [.int .i64 106, .agg [.bool f]]], some (qC op param kind t n l), some [.int .i64 0, .int .i64 0, .str []], some [.int .i64 y.b.k, .int .i64 y.b.n, .str y.b.s], some (ceC y.c)], live := [] } ∧
 (l[y.i]? = some y.c ∧
 y.j ≤ y.c.st.its.length ∧
 bestP op
 (itsOf (List.take y.i l) ++
 List.take y.j y.c.st.its) =
 y.b) ∧
 some (AV.int IntKind.i64 (↑x.fst : Int)) =
 some (AV.int IntKind.i64 (↑y.i : Int)) ∧
 y.c.st.its.length - y.j < x_1.c.st.its.length - x_1.j) ∧
 (decide (n_9 > (0 : Int)) = false →
 ∃ (y : K9),
 ValsAre
 [.ptr 1 0,
 .ptr 2 0,
 .ptr 3 0, .bool true,
 .sl 6 (cesL l) .no,
 .int .i64 (↑l.length : Int),
 .int .i64 (↑x_1.i : Int),
 .sl 6 (itsL x_1.c.st.its) .no,
 .int .i64 (↑x_1.c.st.its.length : Int),
 .int .i64
 (IntKind.i64.wrap ((↑x_1.j : Int) + (1 : Int)))]
 [.ptr 1 0,
 .ptr 2 0,
 .ptr 3 0, .bool y.b.f,
 .sl 6 (cesL l) .no,
 .int .i64 (↑l.length : Int),
 .int .i64 (↑y.i : Int),
 .sl 6 (itsL y.c.st.its) .no,
 .int .i64 (↑y.c.st.its.length : Int),
 .int .i64 (↑y.j : Int)] ∧
 StIs
 { boxes := [some [.tup [.int .i64 106, .agg [.bool f]]], some (qC op param kind t n l), some [.int .i64 0, .int .i64 0, .str []], some [.int .i64 x_1.b.k, .int .i64 x_1.b.n, .str x_1.b.s], some (ceC x_1.c)], live := [] }
 { boxes := [some [.tup [.int .i64 106, .agg [.bool f]]], some (qC op param kind t n l), some [.int .i64 0, .int .i64 0, .str []], some [.int .i64 y.b.k, .int .i64 y.b.n, .str y.b.s], some (ceC y.c)], live := [] } ∧
 (l[y.i]? = some y.c ∧
 y.j ≤ y.c.st.its.length ∧
 bestP op
 (itsOf (List.take y.i l) ++
 List.take y.j y.c.st.its) =
 y.b) ∧
 some (AV.int IntKind.i64 (↑x.fst : Int)) =
 some (AV.int IntKind.i64 (↑y.i : Int)) ∧
 y.c.st.its.length - y.j <
 x_1.c.st.its.length - x_1.j)) ∧
 ((op == [(109 : UInt8), (97 : UInt8), (120 : UInt8)]) = false →
 ∃ (y : K9),
 ValsAre
 [.ptr 1 0, .ptr 2 0,
 .ptr 3 0, .bool true,
 .sl 6 (cesL l) .no,
 .int .i64 (↑l.length : Int),
 .int .i64 (↑x_1.i : Int),
 .sl 6 (itsL x_1.c.st.its) .no,
 .int .i64 (↑x_1.c.st.its.length : Int),
 .int .i64
 (IntKind.i64.wrap ((↑x_1.j : Int) + (1 : Int)))]
 [.ptr 1 0, .ptr 2 0,
 .ptr 3 0, .bool y.b.f,
 .sl 6 (cesL l) .no,
 .int .i64 (↑l.length : Int),
 .int .i64 (↑y.i : Int),
 .sl 6 (itsL y.c.st.its) .no,
 .int .i64 (↑y.c.st.its.length : Int),
 .int .i64 (↑y.j : Int)] ∧
 StIs
 { boxes := [some [.tup [.int .i64 106, .agg [.bool f]]], some (qC op param kind t n l), some [.int .i64 0, .int .i64 0, .str []], some [.int .i64 x_1.b.k, .int .i64 x_1.b.n, .str x_1.b.s], some (ceC x_1.c)], live := [] }
 { boxes := [some [.tup [.int .i64 106, .agg [.bool f]]], some (qC op param kind t n l), some [.int .i64 0, .int .i64 0, .str []], some [.int .i64 y.b.k, .int .i64 y.b.n, .str y.b.s], some (ceC y.c)], live := [] } ∧
 (l[y.i]? = some y.c ∧
 y.j ≤ y.c.st.its.length ∧
 bestP op
 (itsOf (List.take y.i l) ++
 List.take y.j y.c.st.its) =
 y.b) ∧
 some (AV.int IntKind.i64 (↑x.fst : Int)) =
 some (AV.int IntKind.i64 (↑y.i : Int)) ∧
 y.c.st.its.length - y.j < x_1.c.st.its.length - x_1.j))) ∧
 ((op == [(109 : UInt8), (105 : UInt8), (110 : UInt8)]) = false →
 ((op == [(109 : UInt8), (97 : UInt8), (120 : UInt8)]) = true →
 (decide (n_9 > (0 : Int)) = true →
 ∃ (y : K9),
 ValsAre
 [.ptr 1 0, .ptr 2 0,
 .ptr 3 0, .bool true,
 .sl 6 (cesL l) .no,
 .int .i64 (↑l.length : Int),
 .int .i64 (↑x_1.i : Int),
 .sl 6 (itsL x_1.c.st.its) .no,
 .int .i64 (↑x_1.c.st.its.length : Int),
 .int .i64
 (IntKind.i64.wrap ((↑x_1.j : Int) + (1 : Int)))]
 [.ptr 1 0, .ptr 2 0,
 .ptr 3 0, .bool y.b.f,
 .sl 6 (cesL l) .no,
 .int .i64 (↑l.length : Int),
 .int .i64 (↑y.i : Int),
 .sl 6 (itsL y.c.st.its) .no,
 .int .i64 (↑y.c.st.its.length : Int),
 .int .i64 (↑y.j : Int)] ∧
 StIs
 { boxes := [some [.tup [.int .i64 106, .agg [.bool f]]], some (qC op param kind t n l), some [.int .i64 0, .int .i64 0, .str []], some [.int .i64 n_5, .int .i64 n_6, .str s], some (ceC x_1.c)], live := [] }
 { boxes := [some [.tup [.int .i64 106, .agg [.bool f]]], some (qC op param kind t n l), some [.int .i64 0, .int .i64 0, .str []], some [.int .i64 y.b.k, .int .i64 y.b.n, .str y.b.s], some (ceC y.c)], live := [] } ∧
 (l[y.i]? = some y.c ∧
 y.j ≤ y.c.st.its.length ∧
 bestP op
 (itsOf (List.take y.i l) ++
 List.take y.j y.c.st.its) =
 y.b) ∧
 some (AV.int IntKind.i64 (↑x.fst : Int)) =
 some (AV.int IntKind.i64 (↑y.i : Int)) ∧
 y.c.st.its.length - y.j < x_1.c.st.its.length - x_1.j) ∧
 (decide (n_9 > (0 : Int)) = false →
 ∃ (y : K9),
 ValsAre
 [.ptr 1 0, .ptr 2 0,
 .ptr 3 0, .bool true,
 .sl 6 (cesL l) .no,
 .int .i64 (↑l.length : Int),
 .int .i64 (↑x_1.i : Int),
 .sl 6 (itsL x_1.c.st.its) .no,
 .int .i64 (↑x_1.c.st.its.length : Int),
 .int .i64
 (IntKind.i64.wrap ((↑x_1.j : Int) + (1 : Int)))]
 [.ptr 1 0, .ptr 2 0,
 .ptr 3 0, .bool y.b.f,
 .sl 6 (cesL l) .no,
 .int .i64 (↑l.length : Int),
 .int .i64 (↑y.i : Int),
 .sl 6 (itsL y.c.st.its) .no,
 .int .i64 (↑y.c.st.its.length : Int),
 .int .i64 (↑y.j : Int)] ∧
 StIs
 { boxes := [some [.tup [.int .i64 106, .agg [.bool f]]], some (qC op param kind t n l), some [.int .i64 0, .int .i64 0, .str []], some [.int .i64 x_1.b.k, .int .i64 x_1.b.n, .str x_1.b.s], some (ceC x_1.c)], live := [] }
 { boxes := [some [.tup [.int .i64 106, .agg [.bool f]]], some (qC op param kind t n l), some [.int .i64 0, .int .i64 0, .str []], some [.int .i64 y.b.k, .int .i64 y.b.n, .str y.b.s], some (ceC y.c)], live := [] } ∧
 (l[y.i]? = some y.c ∧
 y.j ≤ y.c.st.its.length ∧
 bestP op
 (itsOf (List.take y.i l) ++
 List.take y.j y.c.st.its) =
 y.b) ∧
 some (AV.int IntKind.i64 (↑x.fst : Int)) =
 some (AV.int IntKind.i64 (↑y.i : Int)) ∧
 y.c.st.its.length - y.j < x_1.c.st.its.length - x_1.j)) ∧
 ((op == [(109 : UInt8), (97 : UInt8), (120 : UInt8)]) = false →
 ∃ (y : K9),
 ValsAre
 [.ptr 1 0, .ptr 2 0,
 .ptr 3 0, .bool true,
 .sl 6 (cesL l) .no,
 .int .i64 (↑l.length : Int),
 .int .i64 (↑x_1.i : Int),
 .sl 6 (itsL x_1.c.st.its) .no,
 .int .i64 (↑x_1.c.st.its.length : Int),
 .int .i64
 (IntKind.i64.wrap ((↑x_1.j : Int) + (1 : Int)))]
 [.ptr 1 0, .ptr 2 0,
 .ptr 3 0, .bool y.b.f,
 .sl 6 (cesL l) .no,
 .int .i64 (↑l.length : Int),
 .int .i64 (↑y.i : Int),
 .sl 6 (itsL y.c.st.its) .no,
 .int .i64 (↑y.c.st.its.length : Int),
 .int .i64 (↑y.j : Int)] ∧
 StIs
 { boxes := [some [.tup [.int .i64 106, .agg [.bool f]]], some (qC op param kind t n l), some [.int .i64 0, .int .i64 0, .str []], some [.int .i64 x_1.b.k, .int .i64 x_1.b.n, .str x_1.b.s], some (ceC x_1.c)], live := [] }
 { boxes := [some [.tup [.int .i64 106, .agg [.bool f]]], some (qC op param kind t n l), some [.int .i64 0, .int .i64 0, .str []], some [.int .i64 y.b.k, .int .i64 y.b.n, .str y.b.s], some (ceC y.c)], live := [] } ∧
 (l[y.i]? = some y.c ∧
 y.j ≤ y.c.st.its.length ∧
 bestP op
 (itsOf (List.take y.i l) ++ List.take y.j y.c.st.its) =
 y.b) ∧
 some (AV.int IntKind.i64 (↑x.fst : Int)) =
 some (AV.int IntKind.i64 (↑y.i : Int)) ∧
 y.c.st.its.length - y.j < x_1.c.st.its.length - x_1.j))))) ∧
 (decide ((↑x_1.j : Int) < (↑x_1.c.st.its.length : Int)) = false →
 ∃ (y : Nat × Bst),
 ValsAre
 [.ptr 1 0, .ptr 2 0, .ptr 3 0,
 .bool true, .sl 6 (cesL l) .no, .int .i64 (↑l.length : Int),
 .int .i64 (IntKind.i64.wrap ((↑x_1.i : Int) + (1 : Int)))]
 [.ptr 1 0, .ptr 2 0, .ptr 3 0,
 .bool y.snd.f, .sl 6 (cesL l) .no, .int .i64 (↑l.length : Int),
 .int .i64 (↑y.fst : Int)] ∧
 StIs
 { boxes := [some [.tup [.int .i64 106, .agg [.bool f]]], some (qC op param kind t n l), some [.int .i64 0, .int .i64 0, .str []], some [.int .i64 x_1.b.k, .int .i64 x_1.b.n, .str x_1.b.s]], live := [] }
 { boxes := [some [.tup [.int .i64 106, .agg [.bool f]]], some (qC op param kind t n l), some [.int .i64 0, .int .i64 0, .str []], some [.int .i64 y.snd.k, .int .i64 y.snd.n, .str y.snd.s]], live := [] } ∧
 (y.fst ≤ l.length ∧ bestP op (itsOf (List.take y.fst l)) = y.snd) ∧
 l.length - y.fst < l.length - x.fst)) ∧
 (x_1.b.f = false →
 (decide ((↑x_1.j : Int) < (↑x_1.c.st.its.length : Int)) = true →
 ((0 : Int) ≤ (↑x_1.j : Int) ∧ (↑x_1.j : Int) < (↑(itsL x_1.c.st.its).length : Int)) ∧
 ∃ (n_5 : Int) (n_6 : Int) (s : List UInt8) (s_1 : List UInt8) (n_7 : Int) (n_8 : Int),
 takeAt PA 51 (itsL x_1.c.st.its) (↑x_1.j : Int).toNat 0 =
 some
 (AV.agg
 [.int .i64 n_5, .int .i64 n_6, .str s, .str s_1,
 .int .i64 n_7, .int .i64 n_8]) ∧
 (decide (n_8 ≤ (0 : Int)) = true →
 ∃ (y : K9),
 ValsAre
 [.ptr 1 0, .ptr 2 0,
 .ptr 3 0, .bool false, .sl 6 (cesL l) .no,
 .int .i64 (↑l.length : Int), .int .i64 (↑x_1.i : Int),
 .sl 6 (itsL x_1.c.st.its) .no,
 .int .i64 (↑x_1.c.st.its.length : Int),
 .int .i64 (IntKind.i64.wrap ((↑x_1.j : Int) + (1 : Int)))]
 [.ptr 1 0, .ptr 2 0,
 .ptr 3 0, .bool y.b.f, .sl 6 (cesL l) .no,
 .int .i64 (↑l.length : Int), .int .i64 (↑y.i : Int),
 .sl 6 (itsL y.c.st.its) .no,
 .int .i64 (↑y.c.st.its.length : Int), .int .i64 (↑y.j : Int)] ∧
 StIs
 { boxes := [some [.tup [.int .i64 106, .agg [.bool f]]], some (qC op param kind t n l), some [.int .i64 0, .int .i64 0, .str []], some [.int .i64 x_1.b.k, .int .i64 x_1.b.n, .str x_1.b.s], some (ceC x_1.c)], live := [] }
 { boxes := [some [.tup [.int .i64 106, .agg [.bool f]]], some (qC op param kind t n l), some [.int .i64 0, .int .i64 0, .str []], some [.int .i64 y.b.k, .int .i64 y.b.n, .str y.b.s], some (ceC y.c)], live := [] } ∧
 (l[y.i]? = some y.c ∧
 y.j ≤ y.c.st.its.length ∧
 bestP op (itsOf (List.take y.i l) ++ List.take y.j y.c.st.its) = y.b) ∧
 some (AV.int IntKind.i64 (↑x.fst : Int)) =
 some (AV.int IntKind.i64 (↑y.i : Int)) ∧
 y.c.st.its.length - y.j < x_1.c.st.its.length - x_1.j) ∧
 (decide (n_8 ≤ (0 : Int)) = false →
 ∃ (n_9 : Int),
 CallIs (some (AV.int IntKind.i64 (cmpV n_5 n_6 s x_1.b.k x_1.b.n x_1.b.s), []))
 (AV.int IntKind.i64 n_9) [] ∧
 ∃ (y : K9),
 ValsAre
 [.ptr 1 0, .ptr 2 0,
 .ptr 3 0, .bool true,
 .sl 6 (cesL l) .no, .int .i64 (↑l.length : Int),
 .int .i64 (↑x_1.i : Int),
 .sl 6 (itsL x_1.c.st.its) .no,
 .int .i64 (↑x_1.c.st.its.length : Int),
 .int .i64 (IntKind.i64.wrap ((↑x_1.j : Int) + (1 : Int)))]
 [.ptr 1 0, .ptr 2 0,
 .ptr 3 0, .bool y.b.f,
 .sl 6 (cesL l) .no, .int .i64 (↑l.length : Int),
 .int .i64 (↑y.i : Int), .sl 6 (itsL y.c.st.its) .no,
 .int .i64 (↑y.c.st.its.length : Int),
 .int .i64 (↑y.j : Int)] ∧
 StIs
 { boxes := [some [.tup [.int .i64 106, .agg [.bool f]]], some (qC op param kind t n l), some [.int .i64 0, .int .i64 0, .str []], some [.int .i64 n_5, .int .i64 n_6, .str s], some (ceC x_1.c)], live := [] }
 { boxes := [some [.tup [.int .i64 106, .agg [.bool f]]], some (qC op param kind t n l), some [.int .i64 0, .int .i64 0, .str []], some [.int .i64 y.b.k, .int .i64 y.b.n, .str y.b.s], some (ceC y.c)], live := [] } ∧
 (l[y.i]? = some y.c ∧
 y.j ≤ y.c.st.its.length ∧
 bestP op (itsOf (List.take y.i l) ++ List.take y.j y.c.st.its) = y.b) ∧
 some (AV.int IntKind.i64 (↑x.fst : Int)) =
 some (AV.int IntKind.i64 (↑y.i : Int)) ∧
 y.c.st.its.length - y.j < x_1.c.st.its.length - x_1.j)) ∧
 (decide ((↑x_1.j : Int) < (↑x_1.c.st.its.length : Int)) = false →
 ∃ (y : Nat × Bst),
 ValsAre
 [.ptr 1 0, .ptr 2 0, .ptr 3 0,
 .bool false, .sl 6 (cesL l) .no, .int .i64 (↑l.length : Int),
 .int .i64 (IntKind.i64.wrap ((↑x_1.i : Int) + (1 : Int)))]
 [.ptr 1 0, .ptr 2 0, .ptr 3 0,
 .bool y.snd.f, .sl 6 (cesL l) .no, .int .i64 (↑l.length : Int),
 .int .i64 (↑y.fst : Int)] ∧
 StIs
 { boxes := [some [.tup [.int .i64 106, .agg [.bool f]]], some (qC op param kind t n l), some [.int .i64 0, .int .i64 0, .str []], some [.int .i64 x_1.b.k, .int .i64 x_1.b.n, .str x_1.b.s]], live := [] }
 { boxes := [some [.tup [.int .i64 106, .agg [.bool f]]], some (qC op param kind t n l), some [.int .i64 0, .int .i64 0, .str []], some [.int .i64 y.snd.k, .int .i64 y.snd.n, .str y.snd.s]], live := [] } ∧
 (y.fst ≤ l.length ∧ bestP op (itsOf (List.take y.fst l)) = y.snd) ∧
 l.length - y.fst < l.length - x.fst))) ∧
 (decide ((↑x.fst : Int) < (↑l.length : Int)) = false →
 RetIs (AV.agg [.int .i64 x.snd.k, .int .i64 x.snd.n, .str x.snd.s]) [] (r, []))))) := by kernel_rfl
theorem w18N (k0 : Int) (op : List UInt8) (param kind t : Int) (l : List CeI) (r : AV) : (pureW PA GA (XR none) (tbl [(40, s24)]) (itbl []) (a18 k0 op param kind t l (.lit .nilIface) false) [] 9 [.agg (exC k0 op param), .int .i64 kind, .sl 6 (cesL l) .no, .int .i64 t] (r, [])) =
(CallIs (some (famR (famO op), [])) (AV.tup [AV.lit Value.nilIface, .bool false]) [] ∧
  (false = true →
      (∃ (y : Nat),
 ValsAre
 [.agg (exC k0 op param),
 .int .i64 kind, .sl 6 (cesL l) .no, .int .i64 t, .ptr 0 0,
 .ptr 1 0, AV.lit Value.nilIface, .bool true, .ptr 2 0, .sl 6 (cesL l) .no,
 .int .i64 (↑(cesL l).length : Int), .int .i64 0]
 [.agg (exC k0 op param),
 .int .i64 kind, .sl 6 (cesL l) .no, .int .i64 t, .ptr 0 0,
 .ptr 1 0, AV.lit Value.nilIface, .bool false, .ptr 2 0, .sl 6 (cesL l) .no,
 .int .i64 (↑l.length : Int), .int .i64 (↑y : Int)] ∧
 StIs
 { boxes := [some (exC k0 op param), some [.int .i64 0, .int .i64 0, .str []], some (qC op param kind t 0 l)], live := [] }
 { boxes := [some (exC k0 op param), some [.int .i64 0, .int .i64 0, .str []], some (qC op param kind t (cntP (List.take y l)) l)], live := [] } ∧
 y ≤ l.length ∧ True) ∧
        ∀ (x : Nat),
 x ≤ l.length →
 (decide ((↑x : Int) < (↑l.length : Int)) = true →
 ((0 : Int) ≤ (↑x : Int) ∧ (↑x : Int) < (↑(cesL l).length : Int)) ∧
 ∃ (n : Int) (n_1 : Int) (n_2 : Int) (n_3 : Int) (es : List AV) (es_1 : List AV),
 takeAt PA 42 (cesL l) (↑x : Int).toNat 0 =
 some
 (AV.agg
 [.int .i64 n, .int .i64 n_1, .int .i64 n_2, .int .u64 n_3,
 .sl 6 es .no, .sl 2 es_1 .no]) ∧
 ∃ (y : Nat),
 ValsAre
 [.agg (exC k0 op param),
 .int .i64 kind, .sl 6 (cesL l) .no, .int .i64 t, .ptr 0 0,
 .ptr 1 0, AV.lit Value.nilIface, .bool false, .ptr 2 0,
 .sl 6 (cesL l) .no, .int .i64 (↑l.length : Int),
 .int .i64 (IntKind.i64.wrap ((↑x : Int) + (1 : Int)))]
 [.agg (exC k0 op param),
 .int .i64 kind, .sl 6 (cesL l) .no, .int .i64 t, .ptr 0 0,
 .ptr 1 0, AV.lit Value.nilIface, .bool false, .ptr 2 0,
 .sl 6 (cesL l) .no, .int .i64 (↑l.length : Int), .int .i64 (↑y : Int)] ∧
 StIs
 { boxes := [some (exC k0 op param), some [.int .i64 0, .int .i64 0, .str []], some (qC op param kind t (IntKind.i64.wrap (cntP (List.take x l) + n_1)) l)], live := [] }
 { boxes := [some (exC k0 op param), some [.int .i64 0, .int .i64 0, .str []], some (qC op param kind t (cntP (List.take y l)) l)], live := [] } ∧
 y ≤ l.length ∧ l.length - y < l.length - x) ∧
 (decide ((↑x : Int) < (↑l.length : Int)) = false →
 RetIs (AV.agg [.int .i64 0, .int .i64 0, .str []]) [] (r, []))) ∧
    (false = false →
      (∃ (y : Nat),
 ValsAre
 [.agg (exC k0 op param),
 .int .i64 kind, .sl 6 (cesL l) .no, .int .i64 t, .ptr 0 0,
 .ptr 1 0, AV.lit Value.nilIface, .bool false, .ptr 2 0, .sl 6 (cesL l) .no,
 .int .i64 (↑(cesL l).length : Int), .int .i64 0]
 [.agg (exC k0 op param),
 .int .i64 kind, .sl 6 (cesL l) .no, .int .i64 t, .ptr 0 0,
 .ptr 1 0, AV.lit Value.nilIface, .bool false, .ptr 2 0, .sl 6 (cesL l) .no,
 .int .i64 (↑l.length : Int), .int .i64 (↑y : Int)] ∧
 StIs
 { boxes := [some (exC k0 op param), some [.int .i64 0, .int .i64 0, .str []], some (qC op param kind t 0 l)], live := [] }
 { boxes := [some (exC k0 op param), some [.int .i64 0, .int .i64 0, .str []], some (qC op param kind t (cntP (List.take y l)) l)], live := [] } ∧
 y ≤ l.length ∧ True) ∧
        ∀ (x : Nat),
 x ≤ l.length →
 (decide ((↑x : Int) < (↑l.length : Int)) = true →
 ((0 : Int) ≤ (↑x : Int) ∧ (↑x : Int) < (↑(cesL l).length : Int)) ∧
 ∃ (n : Int) (n_1 : Int) (n_2 : Int) (n_3 : Int) (es : List AV) (es_1 : List AV),
 takeAt PA 42 (cesL l) (↑x : Int).toNat 0 =
 some
 (AV.agg
 [.int .i64 n, .int .i64 n_1, .int .i64 n_2, .int .u64 n_3,
 .sl 6 es .no, .sl 2 es_1 .no]) ∧
 ∃ (y : Nat),
 ValsAre
 [.agg (exC k0 op param),
 .int .i64 kind, .sl 6 (cesL l) .no, .int .i64 t, .ptr 0 0,
 .ptr 1 0, AV.lit Value.nilIface, .bool false, .ptr 2 0,
 .sl 6 (cesL l) .no, .int .i64 (↑l.length : Int),
 .int .i64 (IntKind.i64.wrap ((↑x : Int) + (1 : Int)))]
 [.agg (exC k0 op param),
 .int .i64 kind, .sl 6 (cesL l) .no, .int .i64 t, .ptr 0 0,
 .ptr 1 0, AV.lit Value.nilIface, .bool false, .ptr 2 0,
 .sl 6 (cesL l) .no, .int .i64 (↑l.length : Int), .int .i64 (↑y : Int)] ∧
 StIs
 { boxes := [some (exC k0 op param), some [.int .i64 0, .int .i64 0, .str []], some (qC op param kind t (IntKind.i64.wrap (cntP (List.take x l) + n_1)) l)], live := [] }
 { boxes := [some (exC k0 op param), some [.int .i64 0, .int .i64 0, .str []], some (qC op param kind t (cntP (List.take y l)) l)], live := [] } ∧
 y ≤ l.length ∧ l.length - y < l.length - x) ∧
 (decide ((↑x : Int) < (↑l.length : Int)) = false →
 RetIs (AV.agg [.int .i64 0, .int .i64 0, .str []]) [] (r, [])))) := by kernel_rfl
theorem w18C (k0 : Int) (op : List UInt8) (param kind t : Int) (l : List CeI) (r : AV) : (pureW PA GA (XR (some .cnt)) (tbl [(40, s24), (103, s43)]) (itbl []) (a18 k0 op param kind t l (.lit (.iface 101 (.agg #[]))) true) [] 9 [.agg (exC k0 op param), .int .i64 kind, .sl 6 (cesL l) .no, .int .i64 t] (r, [])) =
(CallIs (some (famR (famO op), [])) (AV.tup [AV.lit (Value.iface (101 : TypeId) (Value.agg #[])), .bool true]) [] ∧
  (true = true →
      (∃ (y : Nat),
 ValsAre
 [.agg (exC k0 op param),
 .int .i64 kind, .sl 6 (cesL l) .no, .int .i64 t, .ptr 0 0,
 .ptr 1 0, AV.lit (Value.iface (101 : TypeId) (Value.agg #[])), .bool true, .ptr 2 0,
 .sl 6 (cesL l) .no, .int .i64 (↑(cesL l).length : Int), .int .i64 0]
 [.agg (exC k0 op param),
 .int .i64 kind, .sl 6 (cesL l) .no, .int .i64 t, .ptr 0 0,
 .ptr 1 0, AV.lit (Value.iface (101 : TypeId) (Value.agg #[])), .bool true, .ptr 2 0,
 .sl 6 (cesL l) .no, .int .i64 (↑l.length : Int), .int .i64 (↑y : Int)] ∧
 StIs
 { boxes := [some (exC k0 op param), some [.int .i64 0, .int .i64 0, .str []], some (qC op param kind t 0 l)], live := [] }
 { boxes := [some (exC k0 op param), some [.int .i64 0, .int .i64 0, .str []], some (qC op param kind t (cntP (List.take y l)) l)], live := [] } ∧
 y ≤ l.length ∧ True) ∧
        ∀ (x : Nat),
 x ≤ l.length →
 (decide ((↑x : Int) < (↑l.length : Int)) = true →
 ((0 : Int) ≤ (↑x : Int) ∧ (↑x : Int) < (↑(cesL l).length : Int)) ∧
 ∃ (n : Int) (n_1 : Int) (n_2 : Int) (n_3 : Int) (es : List AV) (es_1 : List AV),
 takeAt PA 42 (cesL l) (↑x : Int).toNat 0 =
 some
 (AV.agg
 [.int .i64 n, .int .i64 n_1, .int .i64 n_2, .int .u64 n_3,
 .sl 6 es .no, .sl 2 es_1 .no]) ∧
 ∃ (y : Nat),
 ValsAre
 [.agg (exC k0 op param),
 .int .i64 kind, .sl 6 (cesL l) .no, .int .i64 t, .ptr 0 0,
 .ptr 1 0, AV.lit (Value.iface (101 : TypeId) (Value.agg #[])), .bool true,
 .ptr 2 0, .sl 6 (cesL l) .no, .int .i64 (↑l.length : Int),
 .int .i64 (IntKind.i64.wrap ((↑x : Int) + (1 : Int)))]
 [.agg (exC k0 op param),
 .int .i64 kind, .sl 6 (cesL l) .no, .int .i64 t, .ptr 0 0,
 .ptr 1 0, AV.lit (Value.iface (101 : TypeId) (Value.agg #[])), .bool true,
 .ptr 2 0, .sl 6 (cesL l) .no, .int .i64 (↑l.length : Int),
 .int .i64 (↑y : Int)] ∧
 StIs
 { boxes := [some (exC k0 op param), some [.int .i64 0, .int .i64 0, .str []], some (qC op param kind t (IntKind.i64.wrap (cntP (List.take x l) + n_1)) l)], live := [] }
 { boxes := [some (exC k0 op param), some [.int .i64 0, .int .i64 0, .str []], some (qC op param kind t (cntP (List.take y l)) l)], live := [] } ∧
 y ≤ l.length ∧ l.length - y < l.length - x) ∧
 (decide ((↑x : Int) < (↑l.length : Int)) = false →
 (decide (cntP (List.take x l) < (1 : Int)) = true →
 ((!op == [(99 : UInt8), (111 : UInt8), (117 : UInt8), (110 : UInt8), (116 : UInt8)]) = true →
 ((!op == [(100 : UInt8), (105 : UInt8), (115 : UInt8), (116 : UInt8), (105 : UInt8), (110 : UInt8), (99 : UInt8), (116 : UInt8)]) =
 true →
 RetIs (AV.agg [.int .i64 0, .int .i64 0, .str []]) [] (r, [])) ∧
 ((!op == [(100 : UInt8), (105 : UInt8), (115 : UInt8), (116 : UInt8), (105 : UInt8), (110 : UInt8), (99 : UInt8), (116 : UInt8)]) =
 false →
 ∃ (n : Int) (n_1 : Int) (s : List UInt8),
 CallIs
 (tbl [(40, s24), (103, s43)] 103
 [.agg [],
 .agg (qC op param kind t (cntP (List.take x l)) l)])
 (AV.agg [.int .i64 n, .int .i64 n_1, .str s]) [] ∧
 RetIs (AV.agg [.int .i64 n, .int .i64 n_1, .str s]) [] (r, []))) ∧
 ((!op == [(99 : UInt8), (111 : UInt8), (117 : UInt8), (110 : UInt8), (116 : UInt8)]) = false →
 ∃ (n : Int) (n_1 : Int) (s : List UInt8),
 CallIs
 (tbl [(40, s24), (103, s43)] 103
 [.agg [],
 .agg (qC op param kind t (cntP (List.take x l)) l)])
 (AV.agg [.int .i64 n, .int .i64 n_1, .str s]) [] ∧
 RetIs (AV.agg [.int .i64 n, .int .i64 n_1, .str s]) [] (r, []))) ∧
 (decide (cntP (List.take x l) < (1 : Int)) = false →
 ∃ (n : Int) (n_1 : Int) (s : List UInt8),
 CallIs
 (tbl [(40, s24), (103, s43)] 103
 [.agg [],
 .agg (qC op param kind t (cntP (List.take x l)) l)])
 (AV.agg [.int .i64 n, .int .i64 n_1, .str s]) [] ∧
 RetIs (AV.agg [.int .i64 n, .int .i64 n_1, .str s]) [] (r, [])))) ∧
    (true = false →
      (∃ (y : Nat),
 ValsAre
 [.agg (exC k0 op param),
 .int .i64 kind, .sl 6 (cesL l) .no, .int .i64 t, .ptr 0 0,
 .ptr 1 0, AV.lit (Value.iface (101 : TypeId) (Value.agg #[])), .bool false, .ptr 2 0,
 .sl 6 (cesL l) .no, .int .i64 (↑(cesL l).length : Int), .int .i64 0]
 [.agg (exC k0 op param),
 .int .i64 kind, .sl 6 (cesL l) .no, .int .i64 t, .ptr 0 0,
 .ptr 1 0, AV.lit (Value.iface (101 : TypeId) (Value.agg #[])), .bool true, .ptr 2 0,
 .sl 6 (cesL l) .no, .int .i64 (↑l.length : Int), .int .i64 (↑y : Int)] ∧
 StIs
 { boxes := [some (exC k0 op param), some [.int .i64 0, .int .i64 0, .str []], some (qC op param kind t 0 l)], live := [] }
 { boxes := [some (exC k0 op param), some [.int .i64 0, .int .i64 0, .str []], some (qC op param kind t (cntP (List.take y l)) l)], live := [] } ∧
 y ≤ l.length ∧ True) ∧
        ∀ (x : Nat),
 x ≤ l.length →
 (decide ((↑x : Int) < (↑l.length : Int)) = true →
 ((0 : Int) ≤ (↑x : Int) ∧ (↑x : Int) < (↑(cesL l).length : Int)) ∧
 ∃ (n : Int) (n_1 : Int) (n_2 : Int) (n_3 : Int) (es : List AV) (es_1 : List AV),
 takeAt PA 42 (cesL l) (↑x : Int).toNat 0 =
 some
 (AV.agg
 [.int .i64 n, .int .i64 n_1, .int .i64 n_2, .int .u64 n_3,
 .sl 6 es .no, .sl 2 es_1 .no]) ∧
 ∃ (y : Nat),
 ValsAre
 [.agg (exC k0 op param),
 .int .i64 kind, .sl 6 (cesL l) .no, .int .i64 t, .ptr 0 0,
 .ptr 1 0, AV.lit (Value.iface (101 : TypeId) (Value.agg #[])), .bool true,
 .ptr 2 0, .sl 6 (cesL l) .no, .int .i64 (↑l.length : Int),
 .int .i64 (IntKind.i64.wrap ((↑x : Int) + (1 : Int)))]
 [.agg (exC k0 op param),
 .int .i64 kind, .sl 6 (cesL l) .no, .int .i64 t, .ptr 0 0,
 .ptr 1 0, AV.lit (Value.iface (101 : TypeId) (Value.agg #[])), .bool true,
 .ptr 2 0, .sl 6 (cesL l) .no, .int .i64 (↑l.length : Int),
 .int .i64 (↑y : Int)] ∧
 StIs
 { boxes := [some (exC k0 op param), some [.int .i64 0, .int .i64 0, .str []], some (qC op param kind t (IntKind.i64.wrap (cntP (List.take x l) + n_1)) l)], live := [] }
 { boxes := [some (exC k0 op param), some [.int .i64 0, .int .i64 0, .str []], some (qC op param kind t (cntP (List.take y l)) l)], live := [] } ∧
 y ≤ l.length ∧ l.length - y < l.length - x) ∧
 (decide ((↑x : Int) < (↑l.length : Int)) = false →
 (decide (cntP (List.take x l) < (1 : Int)) = true →
 ((!op == [(99 : UInt8), (111 : UInt8), (117 : UInt8), (110 : UInt8), (116 : UInt8)]) = true →
 ((!op == [(100 : UInt8), (105 : UInt8), (115 : UInt8), (116 : UInt8), (105 : UInt8), (110 : UInt8), (99 : UInt8), (116 : UInt8)]) =
 true →
 RetIs (AV.agg [.int .i64 0, .int .i64 0, .str []]) [] (r, [])) ∧
 ((!op == [(100 : UInt8), (105 : UInt8), (115 : UInt8), (116 : UInt8), (105 : UInt8), (110 : UInt8), (99 : UInt8), (116 : UInt8)]) =
 false →
 ∃ (n : Int) (n_1 : Int) (s : List UInt8),
 CallIs
 (tbl [(40, s24), (103, s43)] 103
 [.agg [],
 .agg (qC op param kind t (cntP (List.take x l)) l)])
 (AV.agg [.int .i64 n, .int .i64 n_1, .str s]) [] ∧
 RetIs (AV.agg [.int .i64 n, .int .i64 n_1, .str s]) [] (r, []))) ∧
 ((!op == [(99 : UInt8), (111 : UInt8), (117 : UInt8), (110 : UInt8), (116 : UInt8)]) = false →
 ∃ (n : Int) (n_1 : Int) (s : List UInt8),
 CallIs
 (tbl [(40, s24), (103, s43)] 103
 [.agg [],
 .agg (qC op param kind t (cntP (List.take x l)) l)])
 (AV.agg [.int .i64 n, .int .i64 n_1, .str s]) [] ∧
 RetIs (AV.agg [.int .i64 n, .int .i64 n_1, .str s]) [] (r, []))) ∧
 (decide (cntP (List.take x l) < (1 : Int)) = false →
 ∃ (n : Int) (n_1 : Int) (s : List UInt8),
 CallIs
 (tbl [(40, s24), (103, s43)] 103
 [.agg [],
 .agg (qC op param kind t (cntP (List.take x l)) l)])
 (AV.agg [.int .i64 n, .int .i64 n_1, .str s]) [] ∧
 RetIs (AV.agg [.int .i64 n, .int .i64 n_1, .str s]) [] (r, []))))) := by kernel_rfl
theorem w18S (k0 : Int) (op : List UInt8) (param kind t : Int) (l : List CeI) (r : AV) : (pureW PA GA (XR (some .sum)) (tbl [(40, s24), (106, s46)]) (itbl []) (a18 k0 op param kind t l (.lit (.iface 103 (.agg #[]))) true) [] 9 [.agg (exC k0 op param), .int .i64 kind, .sl 6 (cesL l) .no, .int .i64 t] (r, [])) =
(CallIs (some (famR (famO op), [])) (AV.tup [AV.lit (Value.iface (103 : TypeId) (Value.agg #[])), .bool true]) [] ∧
  (true = true →
      (∃ (y : Nat),
 ValsAre
 [.agg (exC k0 op param),
 .int .i64 kind, .sl 6 (cesL l) .no, .int .i64 t, .ptr 0 0,
 .ptr 1 0, AV.lit (Value.iface (103 : TypeId) (Value.agg #[])), .bool true, .ptr 2 0,
 .sl 6 (cesL l) .no, .int .i64 (↑(cesL l).length : Int), .int .i64 0]
 [.agg (exC k0 op param),
 .int .i64 kind, .sl 6 (cesL l) .no, .int .i64 t, .ptr 0 0,
 .ptr 1 0, AV.lit (Value.iface (103 : TypeId) (Value.agg #[])), .bool true, .ptr 2 0,
 .sl 6 (cesL l) .no, .int .i64 (↑l.length : Int), .int .i64 (↑y : Int)] ∧
 StIs
 { boxes := [some (exC k0 op param), some [.int .i64 0, .int .i64 0, .str []], some (qC op param kind t 0 l)], live := [] }
 { boxes := [some (exC k0 op param), some [.int .i64 0, .int .i64 0, .str []], some (qC op param kind t (cntP (List.take y l)) l)], live := [] } ∧
 y ≤ l.length ∧ True) ∧
        ∀ (x : Nat),
 x ≤ l.length →
 (decide ((↑x : Int) < (↑l.length : Int)) = true →
 ((0 : Int) ≤ (↑x : Int) ∧ (↑x : Int) < (↑(cesL l).length : Int)) ∧
 ∃ (n : Int) (n_1 : Int) (n_2 : Int) (n_3 : Int) (es : List AV) (es_1 : List AV),
 takeAt PA 42 (cesL l) (↑x : Int).toNat 0 =
 some
 (AV.agg
 [.int .i64 n, .int .i64 n_1, .int .i64 n_2, .int .u64 n_3,
 .sl 6 es .no, .sl 2 es_1 .no]) ∧
 ∃ (y : Nat),
 ValsAre
 [.agg (exC k0 op param),
 .int .i64 kind, .sl 6 (cesL l) .no, .int .i64 t, .ptr 0 0,
 .ptr 1 0, AV.lit (Value.iface (103 : TypeId) (Value.agg #[])), .bool true,
 .ptr 2 0, .sl 6 (cesL l) .no, .int .i64 (↑l.length : Int),
 .int .i64 (IntKind.i64.wrap ((↑x : Int) + (1 : Int)))]
 [.agg (exC k0 op param),
 .int .i64 kind, .sl 6 (cesL l) .no, .int .i64 t, .ptr 0 0,
 .ptr 1 0, AV.lit (Value.iface (103 : TypeId) (Value.agg #[])), .bool true,
 .ptr 2 0, .sl 6 (cesL l) .no, .int .i64 (↑l.length : Int),
 .int .i64 (↑y : Int)] ∧
 StIs
 { boxes := [some (exC k0 op param), some [.int .i64 0, .int .i64 0, .str []], some (qC op param kind t (IntKind.i64.wrap (cntP (List.take x l) + n_1)) l)], live := [] }
 { boxes := [some (exC k0 op param), some [.int .i64 0, .int .i64 0, .str []], some (qC op param kind t (cntP (List.take y l)) l)], live := [] } ∧
 y ≤ l.length ∧ l.length - y < l.length - x) ∧
 (decide ((↑x : Int) < (↑l.length : Int)) = false →
 (decide (cntP (List.take x l) < (1 : Int)) = true →
 ((!op == [(99 : UInt8), (111 : UInt8), (117 : UInt8), (110 : UInt8), (116 : UInt8)]) = true →
 ((!op == [(100 : UInt8), (105 : UInt8), (115 : UInt8), (116 : UInt8), (105 : UInt8), (110 : UInt8), (99 : UInt8), (116 : UInt8)]) =
 true →
 RetIs (AV.agg [.int .i64 0, .int .i64 0, .str []]) [] (r, [])) ∧
 ((!op == [(100 : UInt8), (105 : UInt8), (115 : UInt8), (116 : UInt8), (105 : UInt8), (110 : UInt8), (99 : UInt8), (116 : UInt8)]) =
 false →
 ∃ (n : Int) (n_1 : Int) (s : List UInt8),
 CallIs
 (tbl [(40, s24), (106, s46)] 106
 [.agg [],
 .agg (qC op param kind t (cntP (List.take x l)) l)])
 (AV.agg [.int .i64 n, .int .i64 n_1, .str s]) [] ∧
 RetIs (AV.agg [.int .i64 n, .int .i64 n_1, .str s]) [] (r, []))) ∧
 ((!op == [(99 : UInt8), (111 : UInt8), (117 : UInt8), (110 : UInt8), (116 : UInt8)]) = false →
 ∃ (n : Int) (n_1 : Int) (s : List UInt8),
 CallIs
 (tbl [(40, s24), (106, s46)] 106
 [.agg [],
 .agg (qC op param kind t (cntP (List.take x l)) l)])
 (AV.agg [.int .i64 n, .int .i64 n_1, .str s]) [] ∧
 RetIs (AV.agg [.int .i64 n, .int .i64 n_1, .str s]) [] (r, []))) ∧
 (decide (cntP (List.take x l) < (1 : Int)) = false →
 ∃ (n : Int) (n_1 : Int) (s : List UInt8),
 CallIs
 (tbl [(40, s24), (106, s46)] 106
 [.agg [],
 .agg (qC op param kind t (cntP (List.take x l)) l)])
 (AV.agg [.int .i64 n, .int .i64 n_1, .str s]) [] ∧
 RetIs (AV.agg [.int .i64 n, .int .i64 n_1, .str s]) [] (r, [])))) ∧
    (true = false →
      (∃ (y : Nat),
 ValsAre
 [.agg (exC k0 op param),
 .int .i64 kind, .sl 6 (cesL l) .no, .int .i64 t, .ptr 0 0,
 .ptr 1 0, AV.lit (Value.iface (103 : TypeId) (Value.agg #[])), .bool false, .ptr 2 0,
 .sl 6 (cesL l) .no, .int .i64 (↑(cesL l).length : Int), .int .i64 0]
 [.agg (exC k0 op param),
 .int .i64 kind, .sl 6 (cesL l) .no, .int .i64 t, .ptr 0 0,
 .ptr 1 0, AV.lit (Value.iface (103 : TypeId) (Value.agg #[])), .bool true, .ptr 2 0,
 .sl 6 (cesL l) .no, .int .i64 (↑l.length : Int), .int .i64 (↑y : Int)] ∧
 StIs
 { boxes := [some (exC k0 op param), some [.int .i64 0, .int .i64 0, .str []], some (qC op param kind t 0 l)], live := [] }
 { boxes := [some (exC k0 op param), some [.int .i64 0, .int .i64 0, .str []], some (qC op param kind t (cntP (List.take y l)) l)], live := [] } ∧
 y ≤ l.length ∧ True) ∧
        ∀ (x : Nat),
 x ≤ l.length →
 (decide ((↑x : Int) < (↑l.length : Int)) = true →
 ((0 : Int) ≤ (↑x : Int) ∧ (↑x : Int) < (↑(cesL l).length : Int)) ∧
 ∃ (n : Int) (n_1 : Int) (n_2 : Int) (n_3 : Int) (es : List AV) (es_1 : List AV),
 takeAt PA 42 (cesL l) (↑x : Int).toNat 0 =
 some
 (AV.agg
 [.int .i64 n, .int .i64 n_1, .int .i64 n_2, .int .u64 n_3,
 .sl 6 es .no, .sl 2 es_1 .no]) ∧
 ∃ (y : Nat),
 ValsAre
 [.agg (exC k0 op param),
 .int .i64 kind, .sl 6 (cesL l) .no, .int .i64 t, .ptr 0 0,
 .ptr 1 0, AV.lit (Value.iface (103 : TypeId) (Value.agg #[])), .bool true,
 .ptr 2 0, .sl 6 (cesL l) .no, .int .i64 (↑l.length : Int),
 .int .i64 (IntKind.i64.wrap ((↑x : Int) + (1 : Int)))]
 [.agg (exC k0 op param),
 .int .i64 kind, .sl 6 (cesL l) .no, .int .i64 t, .ptr 0 0,
 .ptr 1 0, AV.lit (Value.iface (103 : TypeId) (Value.agg #[])), .bool true,
 .ptr 2 0, .sl 6 (cesL l) .no, .int .i64 (↑l.length : Int),
 .int .i64 (↑y : Int)] ∧
 StIs
 { boxes := [some (exC k0 op param), some [.int .i64 0, .int .i64 0, .str []], some (qC op param kind t (IntKind.i64.wrap (cntP (List.take x l) + n_1)) l)], live := [] }
 { boxes := [some (exC k0 op param), some [.int .i64 0, .int .i64 0, .str []], some (qC op param kind t (cntP (List.take y l)) l)], live := [] } ∧
 y ≤ l.length ∧ l.length - y < l.length - x) ∧
 (decide ((↑x : Int) < (↑l.length : Int)) = false →
 (decide (cntP (List.take x l) < (1 : Int)) = true →
 ((!op == [(99 : UInt8), (111 : UInt8), (117 : UInt8), (110 : UInt8), (116 : UInt8)]) = true →
 ((!op == [(100 : UInt8), (105 : UInt8), (115 : UInt8), (116 : UInt8), (105 : UInt8), (110 : UInt8), (99 : UInt8), (116 : UInt8)]) =
 true →
 RetIs (AV.agg [.int .i64 0, .int .i64 0, .str []]) [] (r, [])) ∧
 ((!op == [(100 : UInt8), (105 : UInt8), (115 : UInt8), (116 : UInt8), (105 : UInt8), (110 : UInt8), (99 : UInt8), (116 : UInt8)]) =
 false →
 ∃ (n : Int) (n_1 : Int) (s : List UInt8),
 CallIs
 (tbl [(40, s24), (106, s46)] 106
 [.agg [],
 .agg (qC op param kind t (cntP (List.take x l)) l)])
 (AV.agg [.int .i64 n, .int .i64 n_1, .str s]) [] ∧
 RetIs (AV.agg [.int .i64 n, .int .i64 n_1, .str s]) [] (r, []))) ∧
 ((!op == [(99 : UInt8), (111 : UInt8), (117 : UInt8), (110 : UInt8), (116 : UInt8)]) = false →
 ∃ (n : Int) (n_1 : Int) (s : List UInt8),
 CallIs
 (tbl [(40, s24), (106, s46)] 106
 [.agg [],
 .agg (qC op param kind t (cntP (List.take x l)) l)])
 (AV.agg [.int .i64 n, .int .i64 n_1, .str s]) [] ∧
 RetIs (AV.agg [.int .i64 n, .int .i64 n_1, .str s]) [] (r, []))) ∧
 (decide (cntP (List.take x l) < (1 : Int)) = false →
 ∃ (n : Int) (n_1 : Int) (s : List UInt8),
 CallIs
 (tbl [(40, s24), (106, s46)] 106
 [.agg [],
 .agg (qC op param kind t (cntP (List.take x l)) l)])
 (AV.agg [.int .i64 n, .int .i64 n_1, .str s]) [] ∧
 RetIs (AV.agg [.int .i64 n, .int .i64 n_1, .str s]) [] (r, []))))) := by kernel_rfl
theorem w18Q (k0 : Int) (op : List UInt8) (param kind t : Int) (l : List CeI) (r : AV) : (pureW PA GA (XR (some .smp)) (tbl [(40, s24), (111, s65)]) (itbl []) (a18 k0 op param kind t l (.lit (.iface 104 (.agg #[]))) true) [] 9 [.agg (exC k0 op param), .int .i64 kind, .sl 6 (cesL l) .no, .int .i64 t] (r, [])) =
(CallIs (some (famR (famO op), [])) (AV.tup [AV.lit (Value.iface (104 : TypeId) (Value.agg #[])), .bool true]) [] ∧
  (true = true →
      (∃ (y : Nat),
 ValsAre
 [.agg (exC k0 op param),
 .int .i64 kind, .sl 6 (cesL l) .no, .int .i64 t, .ptr 0 0,
 .ptr 1 0, AV.lit (Value.iface (104 : TypeId) (Value.agg #[])), .bool true, .ptr 2 0,
 .sl 6 (cesL l) .no, .int .i64 (↑(cesL l).length : Int), .int .i64 0]
 [.agg (exC k0 op param),
 .int .i64 kind, .sl 6 (cesL l) .no, .int .i64 t, .ptr 0 0,
 .ptr 1 0, AV.lit (Value.iface (104 : TypeId) (Value.agg #[])), .bool true, .ptr 2 0,
 .sl 6 (cesL l) .no, .int .i64 (↑l.length : Int), .int .i64 (↑y : Int)] ∧
 StIs
 { boxes := [some (exC k0 op param), some [.int .i64 0, .int .i64 0, .str []], some (qC op param kind t 0 l)], live := [] }
 { boxes := [some (exC k0 op param), some [.int .i64 0, .int .i64 0, .str []], some (qC op param kind t (cntP (List.take y l)) l)], live := [] } ∧
 y ≤ l.length ∧ True) ∧
        ∀ (x : Nat),
 x ≤ l.length →
 (decide ((↑x : Int) < (↑l.length : Int)) = true →
 ((0 : Int) ≤ (↑x : Int) ∧ (↑x : Int) < (↑(cesL l).length : Int)) ∧
 ∃ (n : Int) (n_1 : Int) (n_2 : Int) (n_3 : Int) (es : List AV) (es_1 : List AV),
 takeAt PA 42 (cesL l) (↑x : Int).toNat 0 =
 some
 (AV.agg
 [.int .i64 n, .int .i64 n_1, .int .i64 n_2, .int .u64 n_3,
 .sl 6 es .no, .sl 2 es_1 .no]) ∧
 ∃ (y : Nat),
 ValsAre
 [.agg (exC k0 op param),
 .int .i64 kind, .sl 6 (cesL l) .no, .int .i64 t, .ptr 0 0,
 .ptr 1 0, AV.lit (Value.iface (104 : TypeId) (Value.agg #[])), .bool true,
 .ptr 2 0, .sl 6 (cesL l) .no, .int .i64 (↑l.length : Int),
 .int .i64 (IntKind.i64.wrap ((↑x : Int) + (1 : Int)))]
 [.agg (exC k0 op param),
 .int .i64 kind, .sl 6 (cesL l) .no, .int .i64 t, .ptr 0 0,
 .ptr 1 0, AV.lit (Value.iface (104 : TypeId) (Value.agg #[])), .bool true,
 .ptr 2 0, .sl 6 (cesL l) .no, .int .i64 (↑l.length : Int),
 .int .i64 (↑y : Int)] ∧
 StIs
 { boxes := [some (exC k0 op param), some [.int .i64 0, .int .i64 0, .str []], some (qC op param kind t (IntKind.i64.wrap (cntP (List.take x l) + n_1)) l)], live := [] }
 { boxes := [some (exC k0 op param), some [.int .i64 0, .int .i64 0, .str []], some (qC op param kind t (cntP (List.take y l)) l)], live := [] } ∧
 y ≤ l.length ∧ l.length - y < l.length - x) ∧
 (decide ((↑x : Int) < (↑l.length : Int)) = false →
 (decide (cntP (List.take x l) < (1 : Int)) = true →
 ((!op == [(99 : UInt8), (111 : UInt8), (117 : UInt8), (110 : UInt8), (116 : UInt8)]) = true →
 ((!op == [(100 : UInt8), (105 : UInt8), (115 : UInt8), (116 : UInt8), (105 : UInt8), (110 : UInt8), (99 : UInt8), (116 : UInt8)]) =
 true →
 RetIs (AV.agg [.int .i64 0, .int .i64 0, .str []]) [] (r, [])) ∧
 ((!op == [(100 : UInt8), (105 : UInt8), (115 : UInt8), (116 : UInt8), (105 : UInt8), (110 : UInt8), (99 : UInt8), (116 : UInt8)]) =
 false →
 ∃ (n : Int) (n_1 : Int) (s : List UInt8),
 CallIs
 (tbl [(40, s24), (111, s65)] 111
 [.agg [],
 .agg (qC op param kind t (cntP (List.take x l)) l)])
 (AV.agg [.int .i64 n, .int .i64 n_1, .str s]) [] ∧
 RetIs (AV.agg [.int .i64 n, .int .i64 n_1, .str s]) [] (r, []))) ∧
 ((!op == [(99 : UInt8), (111 : UInt8), (117 : UInt8), (110 : UInt8), (116 : UInt8)]) = false →
 ∃ (n : Int) (n_1 : Int) (s : List UInt8),
 CallIs
 (tbl [(40, s24), (111, s65)] 111
 [.agg [],
 .agg (qC op param kind t (cntP (List.take x l)) l)])
 (AV.agg [.int .i64 n, .int .i64 n_1, .str s]) [] ∧
 RetIs (AV.agg [.int .i64 n, .int .i64 n_1, .str s]) [] (r, []))) ∧
 (decide (cntP (List.take x l) < (1 : Int)) = false →
 ∃ (n : Int) (n_1 : Int) (s : List UInt8),
 CallIs
 (tbl [(40, s24), (111, s65)] 111
 [.agg [],
 .agg (qC op param kind t (cntP (List.take x l)) l)])
 (AV.agg [.int .i64 n, .int .i64 n_1, .str s]) [] ∧
 RetIs (AV.agg [.int .i64 n, .int .i64 n_1, .str s]) [] (r, [])))) ∧
    (true = false →
      (∃ (y : Nat),
 ValsAre
 [.agg (exC k0 op param),
 .int .i64 kind, .sl 6 (cesL l) .no, .int .i64 t, .ptr 0 0,
 .ptr 1 0, AV.lit (Value.iface (104 : TypeId) (Value.agg #[])), .bool false, .ptr 2 0,
 .sl 6 (cesL l) .no, .int .i64 (↑(cesL l).length : Int), .int .i64 0]
 [.agg (exC k0 op param),
 .int .i64 kind, .sl 6 (cesL l) .no, .int .i64 t, .ptr 0 0,
 .ptr 1 0, AV.lit (Value.iface (104 : TypeId) (Value.agg #[])), .bool true, .ptr 2 0,
 .sl 6 (cesL l) .no, .int .i64 (↑l.length : Int), .int .i64 (↑y : Int)] ∧
 StIs
 { boxes := [some (exC k0 op param), some [.int .i64 0, .int .i64 0, .str []], some (qC op param kind t 0 l)], live := [] }
 { boxes := [some (exC k0 op param), some [.int .i64 0, .int .i64 0, .str []], some (qC op param kind t (cntP (List.take y l)) l)], live := [] } ∧
 y ≤ l.length ∧ True) ∧
        ∀ (x : Nat),
 x ≤ l.length →
 (decide ((↑x : Int) < (↑l.length : Int)) = true →
 ((0 : Int) ≤ (↑x : Int) ∧ (↑x : Int) < (↑(cesL l).length : Int)) ∧
 ∃ (n : Int) (n_1 : Int) (n_2 : Int) (n_3 : Int) (es : List AV) (es_1 : List AV),
 takeAt PA 42 (cesL l) (↑x : Int).toNat 0 =
 some
 (AV.agg
 [.int .i64 n, .int .i64 n_1, .int .i64 n_2, .int .u64 n_3,
 .sl 6 es .no, .sl 2 es_1 .no]) ∧
 ∃ (y : Nat),
 ValsAre
 [.agg (exC k0 op param),
 .int .i64 kind, .sl 6 (cesL l) .no, .int .i64 t, .ptr 0 0,
 .ptr 1 0, AV.lit (Value.iface (104 : TypeId) (Value.agg #[])), .bool true,
 .ptr 2 0, .sl 6 (cesL l) .no, .int .i64 (↑l.length : Int),
 .int .i64 (IntKind.i64.wrap ((↑x : Int) + (1 : Int)))]
 [.agg (exC k0 op param),
 .int .i64 kind, .sl 6 (cesL l) .no, .int .i64 t, .ptr 0 0,
 .ptr 1 0, AV.lit (Value.iface (104 : TypeId) (Value.agg #[])), .bool true,
 .ptr 2 0, .sl 6 (cesL l) .no, .int .i64 (↑l.length : Int),
 .int .i64 (↑y : Int)] ∧
 StIs
 { boxes := [some (exC k0 op param), some [.int .i64 0, .int .i64 0, .str []], some (qC op param kind t (IntKind.i64.wrap (cntP (List.take x l) + n_1)) l)], live := [] }
 { boxes := [some (exC k0 op param), some [.int .i64 0, .int .i64 0, .str []], some (qC op param kind t (cntP (List.take y l)) l)], live := [] } ∧
 y ≤ l.length ∧ l.length - y < l.length - x) ∧
 (decide ((↑x : Int) < (↑l.length : Int)) = false →
 (decide (cntP (List.take x l) < (1 : Int)) = true →
 ((!op == [(99 : UInt8), (111 : UInt8), (117 : UInt8), (110 : UInt8), (116 : UInt8)]) = true →
 ((!op == [(100 : UInt8), (105 : UInt8), (115 : UInt8), (116 : UInt8), (105 : UInt8), (110 : UInt8), (99 : UInt8), (116 : UInt8)]) =
 true →
 RetIs (AV.agg [.int .i64 0, .int .i64 0, .str []]) [] (r, [])) ∧
 ((!op == [(100 : UInt8), (105 : UInt8), (115 : UInt8), (116 : UInt8), (105 : UInt8), (110 : UInt8), (99 : UInt8), (116 : UInt8)]) =
 false →
 ∃ (n : Int) (n_1 : Int) (s : List UInt8),
 CallIs
 (tbl [(40, s24), (111, s65)] 111
 [.agg [],
 .agg (qC op param kind t (cntP (List.take x l)) l)])
 (AV.agg [.int .i64 n, .int .i64 n_1, .str s]) [] ∧
 RetIs (AV.agg [.int .i64 n, .int .i64 n_1, .str s]) [] (r, []))) ∧
 ((!op == [(99 : UInt8), (111 : UInt8), (117 : UInt8), (110 : UInt8), (116 : UInt8)]) = false →
 ∃ (n : Int) (n_1 : Int) (s : List UInt8),
 CallIs
 (tbl [(40, s24), (111, s65)] 111
 [.agg [],
 .agg (qC op param kind t (cntP (List.take x l)) l)])
 (AV.agg [.int .i64 n, .int .i64 n_1, .str s]) [] ∧
 RetIs (AV.agg [.int .i64 n, .int .i64 n_1, .str s]) [] (r, []))) ∧
 (decide (cntP (List.take x l) < (1 : Int)) = false →
 ∃ (n : Int) (n_1 : Int) (s : List UInt8),
 CallIs
 (tbl [(40, s24), (111, s65)] 111
 [.agg [],
 .agg (qC op param kind t (cntP (List.take x l)) l)])
 (AV.agg [.int .i64 n, .int .i64 n_1, .str s]) [] ∧
 RetIs (AV.agg [.int .i64 n, .int .i64 n_1, .str s]) [] (r, []))))) := by kernel_rfl
theorem w18K (k0 : Int) (op : List UInt8) (param kind t : Int) (l : List CeI) (r : AV) : (pureW PA GA (XR (some (.keep false))) (tbl [(40, s24), (146, s101)]) (itbl []) (a18 k0 op param kind t l (.lit (.iface 106 (.agg #[.bool false]))) true) [] 9 [.agg (exC k0 op param), .int .i64 kind, .sl 6 (cesL l) .no, .int .i64 t] (r, [])) =
(CallIs (some (famR (famO op), [])) (AV.tup [AV.lit (Value.iface (106 : TypeId) (Value.agg #[Value.bool false])), .bool true]) [] ∧
  (true = true →
      (∃ (y : Nat),
 ValsAre
 [.agg (exC k0 op param),
 .int .i64 kind, .sl 6 (cesL l) .no, .int .i64 t, .ptr 0 0,
 .ptr 1 0, AV.lit (Value.iface (106 : TypeId) (Value.agg #[Value.bool false])), .bool true,
 .ptr 2 0, .sl 6 (cesL l) .no, .int .i64 (↑(cesL l).length : Int), .int .i64 0]
 [.agg (exC k0 op param),
 .int .i64 kind, .sl 6 (cesL l) .no, .int .i64 t, .ptr 0 0,
 .ptr 1 0, AV.lit (Value.iface (106 : TypeId) (Value.agg #[Value.bool false])), .bool true,
 .ptr 2 0, .sl 6 (cesL l) .no, .int .i64 (↑l.length : Int), .int .i64 (↑y : Int)] ∧
 StIs
 { boxes := [some (exC k0 op param), some [.int .i64 0, .int .i64 0, .str []], some (qC op param kind t 0 l)], live := [] }
 { boxes := [some (exC k0 op param), some [.int .i64 0, .int .i64 0, .str []], some (qC op param kind t (cntP (List.take y l)) l)], live := [] } ∧
 y ≤ l.length ∧ True) ∧
        ∀ (x : Nat),
 x ≤ l.length →
 (decide ((↑x : Int) < (↑l.length : Int)) = true →
 ((0 : Int) ≤ (↑x : Int) ∧ (↑x : Int) < (↑(cesL l).length : Int)) ∧
 ∃ (n : Int) (n_1 : Int) (n_2 : Int) (n_3 : Int) (es : List AV) (es_1 : List AV),
 takeAt PA 42 (cesL l) (↑x : Int).toNat 0 =
 some
 (AV.agg
 [.int .i64 n, .int .i64 n_1, .int .i64 n_2, .int .u64 n_3,
 .sl 6 es .no, .sl 2 es_1 .no]) ∧
 ∃ (y : Nat),
 ValsAre
 [.agg (exC k0 op param),
 .int .i64 kind, .sl 6 (cesL l) .no, .int .i64 t, .ptr 0 0,
 .ptr 1 0, AV.lit (Value.iface (106 : TypeId) (Value.agg #[Value.bool false])), .bool true,
 .ptr 2 0, .sl 6 (cesL l) .no, .int .i64 (↑l.length : Int),
 .int .i64 (IntKind.i64.wrap ((↑x : Int) + (1 : Int)))]
 [.agg (exC k0 op param),
 .int .i64 kind, .sl 6 (cesL l) .no, .int .i64 t, .ptr 0 0,
 .ptr 1 0, AV.lit (Value.iface (106 : TypeId) (Value.agg #[Value.bool false])), .bool true,
 .ptr 2 0, .sl 6 (cesL l) .no, .int .i64 (↑l.length : Int),
 .int .i64 (↑y : Int)] ∧
 StIs
 { boxes := [some (exC k0 op param), some [.int .i64 0, .int .i64 0, .str []], some (qC op param kind t (IntKind.i64.wrap (cntP (List.take x l) + n_1)) l)], live := [] }
 { boxes := [some (exC k0 op param), some [.int .i64 0, .int .i64 0, .str []], some (qC op param kind t (cntP (List.take y l)) l)], live := [] } ∧
 y ≤ l.length ∧ l.length - y < l.length - x) ∧
 (decide ((↑x : Int) < (↑l.length : Int)) = false →
 (decide (cntP (List.take x l) < (1 : Int)) = true →
 ((!op == [(99 : UInt8), (111 : UInt8), (117 : UInt8), (110 : UInt8), (116 : UInt8)]) = true →
 ((!op == [(100 : UInt8), (105 : UInt8), (115 : UInt8), (116 : UInt8), (105 : UInt8), (110 : UInt8), (99 : UInt8), (116 : UInt8)]) =
 true →
 RetIs (AV.agg [.int .i64 0, .int .i64 0, .str []]) [] (r, [])) ∧
 ((!op == [(100 : UInt8), (105 : UInt8), (115 : UInt8), (116 : UInt8), (105 : UInt8), (110 : UInt8), (99 : UInt8), (116 : UInt8)]) =
 false →
 ∃ (n : Int) (n_1 : Int) (s : List UInt8),
 CallIs
 (tbl [(40, s24), (146, s101)] 146
 [.agg [.bool false],
 .agg (qC op param kind t (cntP (List.take x l)) l)])
 (AV.agg [.int .i64 n, .int .i64 n_1, .str s]) [] ∧
 RetIs (AV.agg [.int .i64 n, .int .i64 n_1, .str s]) [] (r, []))) ∧
 ((!op == [(99 : UInt8), (111 : UInt8), (117 : UInt8), (110 : UInt8), (116 : UInt8)]) = false →
 ∃ (n : Int) (n_1 : Int) (s : List UInt8),
 CallIs
 (tbl [(40, s24), (146, s101)] 146
 [.agg [.bool false],
 .agg (qC op param kind t (cntP (List.take x l)) l)])
 (AV.agg [.int .i64 n, .int .i64 n_1, .str s]) [] ∧
 RetIs (AV.agg [.int .i64 n, .int .i64 n_1, .str s]) [] (r, []))) ∧
 (decide (cntP (List.take x l) < (1 : Int)) = false →
 ∃ (n : Int) (n_1 : Int) (s : List UInt8),
 CallIs
 (tbl [(40, s24), (146, s101)] 146
 [.agg [.bool false],
 .agg (qC op param kind t (cntP (List.take x l)) l)])
 (AV.agg [.int .i64 n, .int .i64 n_1, .str s]) [] ∧
 RetIs (AV.agg [.int .i64 n, .int .i64 n_1, .str s]) [] (r, [])))) ∧
    (true = false →
      (∃ (y : Nat),
 ValsAre
 [.agg (exC k0 op param),
 .int .i64 kind, .sl 6 (cesL l) .no, .int .i64 t, .ptr 0 0,
 .ptr 1 0, AV.lit (Value.iface (106 : TypeId) (Value.agg #[Value.bool false])), .bool false,
 .ptr 2 0, .sl 6 (cesL l) .no, .int .i64 (↑(cesL l).length : Int), .int .i64 0]
 [.agg (exC k0 op param),
 .int .i64 kind, .sl 6 (cesL l) .no, .int .i64 t, .ptr 0 0,
 .ptr 1 0, AV.lit (Value.iface (106 : TypeId) (Value.agg #[Value.bool false])), .bool true,
 .ptr 2 0, .sl 6 (cesL l) .no, .int .i64 (↑l.length : Int), .int .i64 (↑y : Int)] ∧
 StIs
 { boxes := [some (exC k0 op param), some [.int .i64 0, .int .i64 0, .str []], some (qC op param kind t 0 l)], live := [] }
 { boxes := [some (exC k0 op param), some [.int .i64 0, .int .i64 0, .str []], some (qC op param kind t (cntP (List.take y l)) l)], live := [] } ∧
 y ≤ l.length ∧ True) ∧
        ∀ (x : Nat),
 x ≤ l.length →
 (decide ((↑x : Int) < (↑l.length : Int)) = true →
 ((0 : Int) ≤ (↑x : Int) ∧ (↑x : Int) < (↑(cesL l).length : Int)) ∧
 ∃ (n : Int) (n_1 : Int) (n_2 : Int) (n_3 : Int) (es : List AV) (es_1 : List AV),
 takeAt PA 42 (cesL l) (↑x : Int).toNat 0 =
 some
 (AV.agg
 [.int .i64 n, .int .i64 n_1, .int .i64 n_2, .int .u64 n_3,
 .sl 6 es .no, .sl 2 es_1 .no]) ∧
 ∃ (y : Nat),
 ValsAre
 [.agg (exC k0 op param),
 .int .i64 kind, .sl 6 (cesL l) .no, .int .i64 t, .ptr 0 0,
 .ptr 1 0, AV.lit (Value.iface (106 : TypeId) (Value.agg #[Value.bool false])), .bool true,
 .ptr 2 0, .sl 6 (cesL l) .no, .int .i64 (↑l.length : Int),
 .int .i64 (IntKind.i64.wrap ((↑x : Int) + (1 : Int)))]
 [.agg (exC k0 op param),
 .int .i64 kind, .sl 6 (cesL l) .no, .int .i64 t, .ptr 0 0,
 .ptr 1 0, AV.lit (Value.iface (106 : TypeId) (Value.agg #[Value.bool false])), .bool true,
 .ptr 2 0, .sl 6 (cesL l) .no, .int .i64 (↑l.length : Int),
 .int .i64 (↑y : Int)] ∧
 StIs
 { boxes := [some (exC k0 op param), some [.int .i64 0, .int .i64 0, .str []], some (qC op param kind t (IntKind.i64.wrap (cntP (List.take x l) + n_1)) l)], live := [] }
 { boxes := [some (exC k0 op param), some [.int .i64 0, .int .i64 0, .str []], some (qC op param kind t (cntP (List.take y l)) l)], live := [] } ∧
 y ≤ l.length ∧ l.length - y < l.length - x) ∧
 (decide ((↑x : Int) < (↑l.length : Int)) = false →
 (decide (cntP (List.take x l) < (1 : Int)) = true →
 ((!op == [(99 : UInt8), (111 : UInt8), (117 : UInt8), (110 : UInt8), (116 : UInt8)]) = true →
 ((!op == [(100 : UInt8), (105 : UInt8), (115 : UInt8), (116 : UInt8), (105 : UInt8), (110 : UInt8), (99 : UInt8), (116 : UInt8)]) =
 true →
 RetIs (AV.agg [.int .i64 0, .int .i64 0, .str []]) [] (r, [])) ∧
 ((!op == [(100 : UInt8), (105 : UInt8), (115 : UInt8), (116 : UInt8), (105 : UInt8), (110 : UInt8), (99 : UInt8), (116 : UInt8)]) =
 false →
 ∃ (n : Int) (n_1 : Int) (s : List UInt8),
 CallIs
 (tbl [(40, s24), (146, s101)] 146
 [.agg [.bool false],
 .agg (qC op param kind t (cntP (List.take x l)) l)])
 (AV.agg [.int .i64 n, .int .i64 n_1, .str s]) [] ∧
 RetIs (AV.agg [.int .i64 n, .int .i64 n_1, .str s]) [] (r, []))) ∧
 ((!op == [(99 : UInt8), (111 : UInt8), (117 : UInt8), (110 : UInt8), (116 : UInt8)]) = false →
 ∃ (n : Int) (n_1 : Int) (s : List UInt8),
 CallIs
 (tbl [(40, s24), (146, s101)] 146
 [.agg [.bool false],
 .agg (qC op param kind t (cntP (List.take x l)) l)])
 (AV.agg [.int .i64 n, .int .i64 n_1, .str s]) [] ∧
 RetIs (AV.agg [.int .i64 n, .int .i64 n_1, .str s]) [] (r, []))) ∧
 (decide (cntP (List.take x l) < (1 : Int)) = false →
 ∃ (n : Int) (n_1 : Int) (s : List UInt8),
 CallIs
 (tbl [(40, s24), (146, s101)] 146
 [.agg [.bool false],
 .agg (qC op param kind t (cntP (List.take x l)) l)])
 (AV.agg [.int .i64 n, .int .i64 n_1, .str s]) [] ∧
 RetIs (AV.agg [.int .i64 n, .int .i64 n_1, .str s]) [] (r, []))))) := by kernel_rfl
theorem w18O (k0 : Int) (op : List UInt8) (param kind t : Int) (l : List CeI) (r : AV) : (pureW PA GA (XR (some (.keep true))) (tbl [(40, s24), (146, s101)]) (itbl []) (a18 k0 op param kind t l (.lit (.iface 106 (.agg #[.bool true]))) true) [] 9 [.agg (exC k0 op param), .int .i64 kind, .sl 6 (cesL l) .no, .int .i64 t] (r, [])) =
(CallIs (some (famR (famO op), [])) (AV.tup [AV.lit (Value.iface (106 : TypeId) (Value.agg #[Value.bool true])), .bool true]) [] ∧
  (true = true →
      (∃ (y : Nat),
 ValsAre
 [.agg (exC k0 op param),
 .int .i64 kind, .sl 6 (cesL l) .no, .int .i64 t, .ptr 0 0,
 .ptr 1 0, AV.lit (Value.iface (106 : TypeId) (Value.agg #[Value.bool true])), .bool true,
 .ptr 2 0, .sl 6 (cesL l) .no, .int .i64 (↑(cesL l).length : Int), .int .i64 0]
 [.agg (exC k0 op param),
 .int .i64 kind, .sl 6 (cesL l) .no, .int .i64 t, .ptr 0 0,
 .ptr 1 0, AV.lit (Value.iface (106 : TypeId) (Value.agg #[Value.bool true])), .bool true,
 .ptr 2 0, .sl 6 (cesL l) .no, .int .i64 (↑l.length : Int), .int .i64 (↑y : Int)] ∧
 StIs
 { boxes := [some (exC k0 op param), some [.int .i64 0, .int .i64 0, .str []], some (qC op param kind t 0 l)], live := [] }
 { boxes := [some (exC k0 op param), some [.int .i64 0, .int .i64 0, .str []], some (qC op param kind t (cntP (List.take y l)) l)], live := [] } ∧
 y ≤ l.length ∧ True) ∧
        ∀ (x : Nat),
 x ≤ l.length →
 (decide ((↑x : Int) < (↑l.length : Int)) = true →
 ((0 : Int) ≤ (↑x : Int) ∧ (↑x : Int) < (↑(cesL l).length : Int)) ∧
 ∃ (n : Int) (n_1 : Int) (n_2 : Int) (n_3 : Int) (es : List AV) (es_1 : List AV),
 takeAt PA 42 (cesL l) (↑x : Int).toNat 0 =
 some
 (AV.agg
 [.int .i64 n, .int .i64 n_1, .int .i64 n_2, .int .u64 n_3,
 .sl 6 es .no, .sl 2 es_1 .no]) ∧
 ∃ (y : Nat),
 ValsAre
 [.agg (exC k0 op param),
 .int .i64 kind, .sl 6 (cesL l) .no, .int .i64 t, .ptr 0 0,
 .ptr 1 0, AV.lit (Value.iface (106 : TypeId) (Value.agg #[Value.bool true])), .bool true,
 .ptr 2 0, .sl 6 (cesL l) .no, .int .i64 (↑l.length : Int),
 .int .i64 (IntKind.i64.wrap ((↑x : Int) + (1 : Int)))]
 [.agg (exC k0 op param),
 .int .i64 kind, .sl 6 (cesL l) .no, .int .i64 t, .ptr 0 0,
 .ptr 1 0, AV.lit (Value.iface (106 : TypeId) (Value.agg #[Value.bool true])), .bool true,
 .ptr 2 0, .sl 6 (cesL l) .no, .int .i64 (↑l.length : Int),
 .int .i64 (↑y : Int)] ∧
 StIs
 { boxes := [some (exC k0 op param), some [.int .i64 0, .int .i64 0, .str []], some (qC op param kind t (IntKind.i64.wrap (cntP (List.take x l) + n_1)) l)], live := [] }
 { boxes := [some (exC k0 op param), some [.int .i64 0, .int .i64 0, .str []], some (qC op param kind t (cntP (List.take y l)) l)], live := [] } ∧
 y ≤ l.length ∧ l.length - y < l.length - x) ∧
 (decide ((↑x : Int) < (↑l.length : Int)) = false →
 (decide (cntP (List.take x l) < (1 : Int)) = true →
 ((!op == [(99 : UInt8), (111 : UInt8), (117 : UInt8), (110 : UInt8), (116 : UInt8)]) = true →
 ((!op == [(100 : UInt8), (105 : UInt8), (115 : UInt8), (116 : UInt8), (105 : UInt8), (110 : UInt8), (99 : UInt8), (116 : UInt8)]) =
 true →
 RetIs (AV.agg [.int .i64 0, .int .i64 0, .str []]) [] (r, [])) ∧
 ((!op == [(100 : UInt8), (105 : UInt8), (115 : UInt8), (116 : UInt8), (105 : UInt8), (110 : UInt8), (99 : UInt8), (116 : UInt8)]) =
 false →
 ∃ (n : Int) (n_1 : Int) (s : List UInt8),
 CallIs
 (tbl [(40, s24), (146, s101)] 146
 [.agg [.bool true],
 .agg (qC op param kind t (cntP (List.take x l)) l)])
 (AV.agg [.int .i64 n, .int .i64 n_1, .str s]) [] ∧
 RetIs (AV.agg [.int .i64 n, .int .i64 n_1, .str s]) [] (r, []))) ∧
 ((!op == [(99 : UInt8), (111 : UInt8), (117 : UInt8), (110 : UInt8), (116 : UInt8)]) = false →
 ∃ (n : Int) (n_1 : Int) (s : List UInt8),
 CallIs
 (tbl [(40, s24), (146, s101)] 146
 [.agg [.bool true],
 .agg (qC op param kind t (cntP (List.take x l)) l)])
 (AV.agg [.int .i64 n, .int .i64 n_1, .str s]) [] ∧
 RetIs (AV.agg [.int .i64 n, .int .i64 n_1, .str s]) [] (r, []))) ∧
 (decide (cntP (List.take x l) < (1 : Int)) = false →
 ∃ (n : Int) (n_1 : Int) (s : List UInt8),
 CallIs
 (tbl [(40, s24), (146, s101)] 146
 [.agg [.bool true],
 .agg (qC op param kind t (cntP (List.take x l)) l)])
 (AV.agg [.int .i64 n, .int .i64 n_1, .str s]) [] ∧
 RetIs (AV.agg [.int .i64 n, .int .i64 n_1, .str s]) [] (r, [])))) ∧
    (true = false →
      (∃ (y : Nat),
 ValsAre
 [.agg (exC k0 op param),
 .int .i64 kind, .sl 6 (cesL l) .no, .int .i64 t, .ptr 0 0,
 .ptr 1 0, AV.lit (Value.iface (106 : TypeId) (Value.agg #[Value.bool true])), .bool false,
 .ptr 2 0, .sl 6 (cesL l) .no, .int .i64 (↑(cesL l).length : Int), .int .i64 0]
 [.agg (exC k0 op param),
 .int .i64 kind, .sl 6 (cesL l) .no, .int .i64 t, .ptr 0 0,
 .ptr 1 0, AV.lit (Value.iface (106 : TypeId) (Value.agg #[Value.bool true])), .bool true,
 .ptr 2 0, .sl 6 (cesL l) .no, .int .i64 (↑l.length : Int), .int .i64 (↑y : Int)] ∧
 StIs
 { boxes := [some (exC k0 op param), some [.int .i64 0, .int .i64 0, .str []], some (qC op param kind t 0 l)], live := [] }
 { boxes := [some (exC k0 op param), some [.int .i64 0, .int .i64 0, .str []], some (qC op param kind t (cntP (List.take y l)) l)], live := [] } ∧
 y ≤ l.length ∧ True) ∧
        ∀ (x : Nat),
 x ≤ l.length →
 (decide ((↑x : Int) < (↑l.length : Int)) = true →
 ((0 : Int) ≤ (↑x : Int) ∧ (↑x : Int) < (↑(cesL l).length : Int)) ∧
 ∃ (n : Int) (n_1 : Int) (n_2 : Int) (n_3 : Int) (es : List AV) (es_1 : List AV),
 takeAt PA 42 (cesL l) (↑x : Int).toNat 0 =
 some
 (AV.agg
 [.int .i64 n, .int .i64 n_1, .int .i64 n_2, .int .u64 n_3,
 .sl 6 es .no, .sl 2 es_1 .no]) ∧
 ∃ (y : Nat),
 ValsAre
 [.agg (exC k0 op param),
 .int .i64 kind, .sl 6 (cesL l) .no, .int .i64 t, .ptr 0 0,
 .ptr 1 0, AV.lit (Value.iface (106 : TypeId) (Value.agg #[Value.bool true])), .bool true,
 .ptr 2 0, .sl 6 (cesL l) .no, .int .i64 (↑l.length : Int),
 .int .i64 (IntKind.i64.wrap ((↑x : Int) + (1 : Int)))]
 [.agg (exC k0 op param),
 .int .i64 kind, .sl 6 (cesL l) .no, .int .i64 t, .ptr 0 0,
 .ptr 1 0, AV.lit (Value.iface (106 : TypeId) (Value.agg #[Value.bool true])), .bool true,
 .ptr 2 0, .sl 6 (cesL l) .no, .int .i64 (↑l.length : Int),
 .int .i64 (↑y : Int)] ∧
 StIs
 { boxes := [some (exC k0 op param), some [.int .i64 0, .int .i64 0, .str []], some (qC op param kind t (IntKind.i64.wrap (cntP (List.take x l) + n_1)) l)], live := [] }
 { boxes := [some (exC k0 op param), some [.int .i64 0, .int .i64 0, .str []], some (qC op param kind t (cntP (List.take y l)) l)], live := [] } ∧
 y ≤ l.length ∧ l.length - y < l.length - x) ∧
 (decide ((↑x : Int) < (↑l.length : Int)) = false →
 (decide (cntP (List.take x l) < (1 : Int)) = true →
 ((!op == [(99 : UInt8), (111 : UInt8), (117 : UInt8), (110 : UInt8), (116 : UInt8)]) = true →
 ((!op == [(100 : UInt8), (105 : UInt8), (115 : UInt8), (116 : UInt8), (105 : UInt8), (110 : UInt8), (99 : UInt8), (116 : UInt8)]) =
 true →
 RetIs (AV.agg [.int .i64 0, .int .i64 0, .str []]) [] (r, [])) ∧
 ((!op == [(100 : UInt8), (105 : UInt8), (115 : UInt8), (116 : UInt8), (105 : UInt8), (110 : UInt8), (99 : UInt8), (116 : UInt8)]) =
 false →
 ∃ (n : Int) (n_1 : Int) (s : List UInt8),
 CallIs
 (tbl [(40, s24), (146, s101)] 146
 [.agg [.bool true],
 .agg (qC op param kind t (cntP (List.take x l)) l)])
 (AV.agg [.int .i64 n, .int .i64 n_1, .str s]) [] ∧
 RetIs (AV.agg [.int .i64 n, .int .i64 n_1, .str s]) [] (r, []))) ∧
 ((!op == [(99 : UInt8), (111 : UInt8), (117 : UInt8), (110 : UInt8), (116 : UInt8)]) = false →
 ∃ (n : Int) (n_1 : Int) (s : List UInt8),
 CallIs
 (tbl [(40, s24), (146, s101)] 146
 [.agg [.bool true],
 .agg (qC op param kind t (cntP (List.take x l)) l)])
 (AV.agg [.int .i64 n, .int .i64 n_1, .str s]) [] ∧
 RetIs (AV.agg [.int .i64 n, .int .i64 n_1, .str s]) [] (r, []))) ∧
 (decide (cntP (List.take x l) < (1 : Int)) = false →
 ∃ (n : Int) (n_1 : Int) (s : List UInt8),
 CallIs
 (tbl [(40, s24), (146, s101)] 146
 [.agg [.bool true],
 .agg (qC op param kind t (cntP (List.take x l)) l)])
 (AV.agg [.int .i64 n, .int .i64 n_1, .str s]) [] ∧
 RetIs (AV.agg [.int .i64 n, .int .i64 n_1, .str s]) [] (r, []))))) := by kernel_rfl
end Go.Abs
