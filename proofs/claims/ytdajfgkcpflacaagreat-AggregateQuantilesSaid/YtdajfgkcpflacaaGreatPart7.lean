/- Own texts, part 7. -/
import Derived.Test.YtdajfgkcpflacaaGreatPart6

namespace Go.Abs
open Go.Proofs Go.Proofs.K17 Go.Proofs.D17 Go.RowKit
theorem w8 (h a : Int) (r : AV) : (pureW PA GA XN (tbl []) (itbl []) nAn [] 18 [.int .i64 h, .int .i64 a] (r, [])) =
((decide (h < (1 : Int)) = true → RetIs (AV.int IntKind.i64 (0 : Int)) [] (r, [])) ∧
  (decide (h < (1 : Int)) = false →
    (decide (h > (1073741824 : Int)) = true → RetIs (AV.int IntKind.i64 (0 : Int)) [] (r, [])) ∧
      (decide (h > (1073741824 : Int)) = false →
        (decide (a < (0 : Int)) = true → RetIs (AV.int IntKind.i64 (0 : Int)) [] (r, [])) ∧
 (decide (a < (0 : Int)) = false →
 h ≠ (0 : Int) ∧
 (decide (IntKind.i64.wrap (a.tdiv h) ≥ (32 : Int)) = true → RetIs (AV.int IntKind.i64 (0 : Int)) [] (r, [])) ∧
 (decide (IntKind.i64.wrap (a.tdiv h) ≥ (32 : Int)) = false →
 h ≠ (0 : Int) ∧
 (0 : Int) ≤ (31 : Int) ∧
 h ≠ (0 : Int) ∧
 h ≠ (0 : Int) ∧
 (0 : Int) ≤ IntKind.i64.wrap (a.tdiv h) ∧
 RetIs
 (AV.int IntKind.i64
 ((IntKind.i64.wrap
 ((IntKind.i64.wrap (IntKind.i64.wrap (IntKind.i64.wrap ((2 : Int) * h) - a.tmod h) * (2147483648 : Int))).tdiv h)).fdiv
 ((2 : Int) ^ min (IntKind.i64.wrap (a.tdiv h)).toNat ((64 : Nat)))))
 [] (r, [])))))) := by kernel_rfl
theorem w50 (t e : Int) (r : AV) : (pureW PA GA XN (tbl []) (itbl []) nAn [] 107 [.int .i64 t, .int .i64 e] (r, [])) =
((decide (t ≥ e) = true →
    (decide (IntKind.i64.wrap (t - e) ≥ (0 : Int)) = true → RetIs (AV.int IntKind.i64 (IntKind.i64.wrap (t - e))) [] (r, [])) ∧
      (decide (IntKind.i64.wrap (t - e) ≥ (0 : Int)) = false → RetIs (AV.int IntKind.i64 (-1 : Int)) [] (r, []))) ∧
  (decide (t ≥ e) = false → RetIs (AV.int IntKind.i64 (-1 : Int)) [] (r, []))) := by kernel_rfl
theorem w51 (kind h l d : Int) (r : AV) : (pureW PA GA XN (tbl [(14, s55)]) (itbl []) nAn [] 108 [.int .i64 kind, .agg [.int .i64 h, .int .u64 l], .int .i64 d] (r, [])) =
(∃ (n : Int),
  ∃ (b : Bool),
    CallIs (tbl [((14 : Nat), s55)] ((14 : Nat)) [AV.agg [AV.int IntKind.i64 h, AV.int IntKind.u64 l], AV.int IntKind.i64 d])
        (AV.tup [AV.int IntKind.i64 n, AV.bool b]) [] ∧
      (b = true →
 ((kind != (2 : Int)) = true → RetIs (AV.agg [AV.int IntKind.i64 (3 : Int), AV.int IntKind.i64 n, AV.str []]) [] (r, [])) ∧
 ((kind != (2 : Int)) = false → RetIs (AV.agg [AV.int IntKind.i64 kind, AV.int IntKind.i64 n, AV.str []]) [] (r, []))) ∧
        (b = false → RetIs (AV.agg [AV.int IntKind.i64 (0 : Int), AV.int IntKind.i64 (0 : Int), AV.str []]) [] (r, []))) := by kernel_rfl
theorem w43 (op : List UInt8) (param kind t n : Int) (l : List CeI) (r : AV) : (pureW PA GA XN (tbl []) (itbl []) nAn [] 103 [.agg [], .agg (qC op param kind t n l)] (r, [])) =
(RetIs (AV.agg [AV.int IntKind.i64 (2 : Int), AV.int IntKind.i64 n, AV.str []]) [] (r, [])) := by kernel_rfl
theorem w46 (op : List UInt8) (param kind t n : Int) (l : List CeI) (r : AV) : (pureW PA GA XN (tbl [(107, s50), (18, s8), (45, s49), (16, s47), (108, s51)]) (itbl []) (a46 op param kind t n l) [] 106 [.agg [], .agg (qC op param kind t n l)] (r, [])) =
((∃ (y : Nat),
    ValsAre
        [AV.ptr ((1 : Nat)) ((0 : Nat)), AV.ptr ((2 : Nat)) ((0 : Nat)), AV.ptr ((3 : Nat)) ((0 : Nat)), AV.sl ((6 : Nat)) (cesL l) Own.no,
 AV.int IntKind.i64 (↑(cesL l).length : Int), AV.int IntKind.i64 (0 : Int)]
        [AV.ptr ((1 : Nat)) ((0 : Nat)), AV.ptr ((2 : Nat)) ((0 : Nat)), AV.ptr ((3 : Nat)) ((0 : Nat)), AV.sl ((6 : Nat)) (cesL l) Own.no,
 AV.int IntKind.i64 (↑l.length : Int), AV.int IntKind.i64 (↑y : Int)] ∧
      StIs
 { boxes := [some [AV.tup [AV.int IntKind.i64 (103 : Int), AV.agg []]], some [AV.str op, AV.int IntKind.i64 param, AV.int IntKind.i64 kind, AV.int IntKind.i64 t, AV.int IntKind.i64 n, AV.sl ((6 : Nat)) (cesL l) Own.no], some [AV.int IntKind.i64 (0 : Int), AV.int IntKind.i64 (0 : Int), AV.str []], some [AV.int IntKind.i64 (0 : Int), AV.int IntKind.u64 (0 : Int)]], live := [] }
 { boxes := [some [AV.tup [AV.int IntKind.i64 (103 : Int), AV.agg []]], some [AV.str op, AV.int IntKind.i64 param, AV.int IntKind.i64 kind, AV.int IntKind.i64 t, AV.int IntKind.i64 n, AV.sl ((6 : Nat)) (cesL l) Own.no], some [AV.int IntKind.i64 (0 : Int), AV.int IntKind.i64 (0 : Int), AV.str []], some [AV.int IntKind.i64 (whi (sumP op param t (List.take y l))), AV.int IntKind.u64 (wlo (sumP op param t (List.take y l)))]], live := [] } ∧
        y ≤ l.length ∧ True) ∧
  ∀ (x : Nat),
    x ≤ l.length →
      (decide ((↑x : Int) < (↑l.length : Int)) = true →
 ((0 : Int) ≤ (↑x : Int) ∧ (↑x : Int) < (↑(cesL l).length : Int)) ∧
 ∃ (n_1 : Int),
 ∃ (n_2 : Int),
 ∃ (n_3 : Int),
 ∃ (n_4 : Int),
 ∃ (es : List AV),
 ∃ (es_1 : List AV),
 takeAt PA ((42 : Nat)) (cesL l) (↑x : Int).toNat ((0 : Nat)) =
 some
 (AV.agg
 [AV.int IntKind.i64 n_1, AV.int IntKind.i64 n_2, AV.int IntKind.i64 n_3, AV.int IntKind.u64 n_4, AV.sl ((6 : Nat)) es Own.no,
 AV.sl ((2 : Nat)) es_1 Own.no]) ∧
 ((op == [(100 : UInt8), (101 : UInt8), (99 : UInt8), (97 : UInt8), (121 : UInt8)]) = true →
 ∃ (n_5 : Int),
 CallIs (some (AV.int IntKind.i64 (ageP t n_1), [])) (AV.int IntKind.i64 n_5) [] ∧
 ∃ (n_6 : Int),
 CallIs
 (tbl [((107 : Nat), s50), ((18 : Nat), s8), ((45 : Nat), s49), ((16 : Nat), s47), ((108 : Nat), s51)] ((18 : Nat))
 [AV.int IntKind.i64 param, AV.int IntKind.i64 n_5])
 (AV.int IntKind.i64 n_6) [] ∧
 ∃ (n_7 : Int),
 ∃ (n_8 : Int),
 CallIs
 (tbl [((107 : Nat), s50), ((18 : Nat), s8), ((45 : Nat), s49), ((16 : Nat), s47), ((108 : Nat), s51)] ((45 : Nat))
 [AV.agg [AV.int IntKind.i64 n_3, AV.int IntKind.u64 n_4], AV.int IntKind.i64 n_6])
 (AV.agg [AV.int IntKind.i64 n_7, AV.int IntKind.u64 n_8]) [] ∧
 ∃ (n_9 : Int),
 ∃ (n_10 : Int),
 CallIs
 (tbl [((107 : Nat), s50), ((18 : Nat), s8), ((45 : Nat), s49), ((16 : Nat), s47), ((108 : Nat), s51)]
 ((16 : Nat))
 [AV.agg
 [AV.int IntKind.i64 (whi (sumP op param t (List.take x l))),
 AV.int IntKind.u64 (wlo (sumP op param t (List.take x l)))],
 AV.agg [AV.int IntKind.i64 n_7, AV.int IntKind.u64 n_8]])
 (AV.agg [AV.int IntKind.i64 n_9, AV.int IntKind.u64 n_10]) [] ∧
 ∃ (y : Nat),
 ValsAre
 [AV.ptr ((1 : Nat)) ((0 : Nat)), AV.ptr ((2 : Nat)) ((0 : Nat)), AV.ptr ((3 : Nat)) ((0 : Nat)),
 AV.sl ((6 : Nat)) (cesL l) Own.no, AV.int IntKind.i64 (↑l.length : Int),
 AV.int IntKind.i64 (IntKind.i64.wrap ((↑x : Int) + (1 : Int)))]
 [AV.ptr ((1 : Nat)) ((0 : Nat)), AV.ptr ((2 : Nat)) ((0 : Nat)), AV.ptr ((3 : Nat)) ((0 : Nat)),
 AV.sl ((6 : Nat)) (cesL l) Own.no, AV.int IntKind.i64 (↑l.length : Int),
 AV.int IntKind.i64 (↑y : Int)] ∧
 StIs
 { boxes := [some [AV.tup [AV.int IntKind.i64 (103 : Int), AV.agg []]], some [AV.str op, AV.int IntKind.i64 param, AV.int IntKind.i64 kind, AV.int IntKind.i64 t, AV.int IntKind.i64 n, AV.sl ((6 : Nat)) (cesL l) Own.no], some [AV.int IntKind.i64 (0 : Int), AV.int IntKind.i64 (0 : Int), AV.str []], some [AV.int IntKind.i64 n_9, AV.int IntKind.u64 n_10]], live := [] }
 { boxes := [some [AV.tup [AV.int IntKind.i64 (103 : Int), AV.agg []]], some [AV.str op, AV.int IntKind.i64 param, AV.int IntKind.i64 kind, AV.int IntKind.i64 t, AV.int IntKind.i64 n, AV.sl ((6 : Nat)) (cesL l) Own.no], some [AV.int IntKind.i64 (0 : Int), AV.int IntKind.i64 (0 : Int), AV.str []], some [AV.int IntKind.i64 (whi (sumP op param t (List.take y l))), AV.int IntKind.u64 (wlo (sumP op param t (List.take y l)))]], live := [] } ∧
 y ≤ l.length ∧ l.length - y < l.length - x) ∧
 ((op == [(100 : UInt8), (101 : UInt8), (99 : UInt8), (97 : UInt8), (121 : UInt8)]) = false →
 ∃ (n_5 : Int),
 ∃ (n_6 : Int),
 CallIs
 (tbl [((107 : Nat), s50), ((18 : Nat), s8), ((45 : Nat), s49), ((16 : Nat), s47), ((108 : Nat), s51)] ((16 : Nat))
 [AV.agg
 [AV.int IntKind.i64 (whi (sumP op param t (List.take x l))),
 AV.int IntKind.u64 (wlo (sumP op param t (List.take x l)))],
 AV.agg [AV.int IntKind.i64 n_3, AV.int IntKind.u64 n_4]])
 (AV.agg [AV.int IntKind.i64 n_5, AV.int IntKind.u64 n_6]) [] ∧
 ∃ (y : Nat),
 ValsAre
 [AV.ptr ((1 : Nat)) ((0 : Nat)), AV.ptr ((2 : Nat)) ((0 : Nat)), AV.ptr ((3 : Nat)) ((0 : Nat)),
 AV.sl ((6 : Nat)) (cesL l) Own.no, AV.int IntKind.i64 (↑l.length : Int),
 AV.int IntKind.i64 (IntKind.i64.wrap ((↑x : Int) + (1 : Int)))]
 [AV.ptr ((1 : Nat)) ((0 : Nat)), AV.ptr ((2 : Nat)) ((0 : Nat)), AV.ptr ((3 : Nat)) ((0 : Nat)),
 AV.sl ((6 : Nat)) (cesL l) Own.no, AV.int IntKind.i64 (↑l.length : Int), AV.int IntKind.i64 (↑y : Int)] ∧
 StIs
 { boxes := [some [AV.tup [AV.int IntKind.i64 (103 : Int), AV.agg []]], some [AV.str op, AV.int IntKind.i64 param, AV.int IntKind.i64 kind, AV.int IntKind.i64 t, AV.int IntKind.i64 n, AV.sl ((6 : Nat)) (cesL l) Own.no], some [AV.int IntKind.i64 (0 : Int), AV.int IntKind.i64 (0 : Int), AV.str []], some [AV.int IntKind.i64 n_5, AV.int IntKind.u64 n_6]], live := [] }
 { boxes := [some [AV.tup [AV.int IntKind.i64 (103 : Int), AV.agg []]], some [AV.str op, AV.int IntKind.i64 param, AV.int IntKind.i64 kind, AV.int IntKind.i64 t, AV.int IntKind.i64 n, AV.sl ((6 : Nat)) (cesL l) Own.no], some [AV.int IntKind.i64 (0 : Int), AV.int IntKind.i64 (0 : Int), AV.str []], some [AV.int IntKind.i64 (whi (sumP op param t (List.take y l))), AV.int IntKind.u64 (wlo (sumP op param t (List.take y l)))]], live := [] } ∧
 y ≤ l.length ∧ l.length - y < l.length - x)) ∧
        (decide ((↑x : Int) < (↑l.length : Int)) = false →
 ((op == [(115 : UInt8), (117 : UInt8), (109 : UInt8)]) = true →
 ∃ (n : Int),
 ∃ (n_1 : Int),
 ∃ (s : List UInt8),
 CallIs
 (tbl [((107 : Nat), s50), ((18 : Nat), s8), ((45 : Nat), s49), ((16 : Nat), s47), ((108 : Nat), s51)] ((108 : Nat))
 [AV.int IntKind.i64 kind,
 AV.agg [AV.int IntKind.i64 (whi (sumP op param t (List.take x l))), AV.int IntKind.u64 (wlo (sumP op param t (List.take x l)))],
 AV.int IntKind.i64 (1 : Int)])
 (AV.agg [AV.int IntKind.i64 n, AV.int IntKind.i64 n_1, AV.str s]) [] ∧
 RetIs (AV.agg [AV.int IntKind.i64 n, AV.int IntKind.i64 n_1, AV.str s]) [] (r, [])) ∧
 ((op == [(115 : UInt8), (117 : UInt8), (109 : UInt8)]) = false →
 ((kind == (2 : Int)) = true →
 ∃ (n_1 : Int),
 ∃ (n_2 : Int),
 CallIs
 (tbl [((107 : Nat), s50), ((18 : Nat), s8), ((45 : Nat), s49), ((16 : Nat), s47), ((108 : Nat), s51)] ((45 : Nat))
 [AV.agg [AV.int IntKind.i64 (whi (sumP op param t (List.take x l))), AV.int IntKind.u64 (wlo (sumP op param t (List.take x l)))],
 AV.int IntKind.i64 (1000000 : Int)])
 (AV.agg [AV.int IntKind.i64 n_1, AV.int IntKind.u64 n_2]) [] ∧
 ((op == [(109 : UInt8), (101 : UInt8), (97 : UInt8), (110 : UInt8)]) = true →
 ∃ (n_3 : Int),
 ∃ (n_4 : Int),
 ∃ (s : List UInt8),
 CallIs
 (tbl [((107 : Nat), s50), ((18 : Nat), s8), ((45 : Nat), s49), ((16 : Nat), s47), ((108 : Nat), s51)] ((108 : Nat))
 [AV.int IntKind.i64 (3 : Int), AV.agg [AV.int IntKind.i64 n_1, AV.int IntKind.u64 n_2], AV.int IntKind.i64 n])
 (AV.agg [AV.int IntKind.i64 n_3, AV.int IntKind.i64 n_4, AV.str s]) [] ∧
 RetIs (AV.agg [AV.int IntKind.i64 n_3, AV.int IntKind.i64 n_4, AV.str s]) [] (r, [])) ∧
 ((op == [(109 : UInt8), (101 : UInt8), (97 : UInt8), (110 : UInt8)]) = false →
 ∃ (n : Int),
 ∃ (n_3 : Int),
 ∃ (s : List UInt8),
 CallIs
 (tbl [((107 : Nat), s50), ((18 : Nat), s8), ((45 : Nat), s49), ((16 : Nat), s47), ((108 : Nat), s51)] ((108 : Nat))
 [AV.int IntKind.i64 (3 : Int), AV.agg [AV.int IntKind.i64 n_1, AV.int IntKind.u64 n_2],
 AV.int IntKind.i64 (4294967296 : Int)])
 (AV.agg [AV.int IntKind.i64 n, AV.int IntKind.i64 n_3, AV.str s]) [] ∧
 RetIs (AV.agg [AV.int IntKind.i64 n, AV.int IntKind.i64 n_3, AV.str s]) [] (r, []))) ∧
 ((kind == (2 : Int)) = false →
 ((op == [(109 : UInt8), (101 : UInt8), (97 : UInt8), (110 : UInt8)]) = true →
 ∃ (n_1 : Int),
 ∃ (n_2 : Int),
 ∃ (s : List UInt8),
 CallIs
 (tbl [((107 : Nat), s50), ((18 : Nat), s8), ((45 : Nat), s49), ((16 : Nat), s47), ((108 : Nat), s51)] ((108 : Nat))
 [AV.int IntKind.i64 (3 : Int),
 AV.agg
 [AV.int IntKind.i64 (whi (sumP op param t (List.take x l))), AV.int IntKind.u64 (wlo (sumP op param t (List.take x l)))],
 AV.int IntKind.i64 n])
 (AV.agg [AV.int IntKind.i64 n_1, AV.int IntKind.i64 n_2, AV.str s]) [] ∧
 RetIs (AV.agg [AV.int IntKind.i64 n_1, AV.int IntKind.i64 n_2, AV.str s]) [] (r, [])) ∧
 ((op == [(109 : UInt8), (101 : UInt8), (97 : UInt8), (110 : UInt8)]) = false →
 ∃ (n : Int),
 ∃ (n_1 : Int),
 ∃ (s : List UInt8),
 CallIs
 (tbl [((107 : Nat), s50), ((18 : Nat), s8), ((45 : Nat), s49), ((16 : Nat), s47), ((108 : Nat), s51)] ((108 : Nat))
 [AV.int IntKind.i64 (3 : Int),
 AV.agg
 [AV.int IntKind.i64 (whi (sumP op param t (List.take x l))), AV.int IntKind.u64 (wlo (sumP op param t (List.take x l)))],
 AV.int IntKind.i64 (4294967296 : Int)])
 (AV.agg [AV.int IntKind.i64 n, AV.int IntKind.i64 n_1, AV.str s]) [] ∧
 RetIs (AV.agg [AV.int IntKind.i64 n, AV.int IntKind.i64 n_1, AV.str s]) [] (r, [])))))) := by kernel_rfl
theorem w65 (op : List UInt8) (param kind t n : Int) (l : List CeI) (r : AV) : (pureW PA GA XN (tbl [(112, s66), (114, s68)]) (itbl []) (a65 op param kind t n l) [] 111 [.agg [], .agg (qC op param kind t n l)] (r, [])) =
((decide ((0 : Int) < (↑(cesL l).length : Int)) = true →
    ((0 : Int) ≤ (0 : Int) ∧ (0 : Int) < (↑(cesL l).length : Int)) ∧
      ∃ (n_1 : Int),
        ∃ (n_2 : Int),
 ∃ (n_3 : Int),
 ∃ (n_4 : Int),
 ∃ (es : List AV),
 ∃ (es_1 : List AV),
 takeAt PA ((42 : Nat)) (cesL l) ((0 : Nat)) ((0 : Nat)) =
 some
 (AV.agg
 [AV.int IntKind.i64 n_1, AV.int IntKind.i64 n_2, AV.int IntKind.i64 n_3, AV.int IntKind.u64 n_4, AV.sl ((6 : Nat)) es Own.no,
 AV.sl ((2 : Nat)) es_1 Own.no]) ∧
 ∃ (es_2 : List AV),
 CallIs (tbl [((112 : Nat), s66), ((114 : Nat), s68)] ((112 : Nat)) [AV.sl ((0 : Nat)) [] Own.nil, AV.sl ((2 : Nat)) es_1 Own.no])
 (AV.sl ((2 : Nat)) es_2 Own.no) [] ∧
 (∃ (y : Nat × CeI),
 ValsAre
 [AV.ptr ((1 : Nat)) ((0 : Nat)), AV.ptr ((2 : Nat)) ((0 : Nat)), AV.sl ((2 : Nat)) es_2 Own.no,
 AV.sl ((6 : Nat)) (cesL l) Own.no, AV.int IntKind.i64 (↑(cesL l).length : Int), AV.int IntKind.i64 (1 : Int)]
 [AV.ptr ((1 : Nat)) ((0 : Nat)), AV.ptr ((2 : Nat)) ((0 : Nat)), AV.sl ((2 : Nat)) (bksL (mrgB (List.take y.fst l))) Own.no,
 AV.sl ((6 : Nat)) (cesL l) Own.no, AV.int IntKind.i64 (↑l.length : Int), AV.int IntKind.i64 (↑y.fst : Int)] ∧
 StIs
 { boxes := [some [AV.tup [AV.int IntKind.i64 (104 : Int), AV.agg []]], some [AV.str op, AV.int IntKind.i64 param, AV.int IntKind.i64 kind, AV.int IntKind.i64 t, AV.int IntKind.i64 n, AV.sl ((6 : Nat)) (cesL l) Own.no], some [AV.int IntKind.i64 (0 : Int), AV.int IntKind.i64 (0 : Int), AV.str []], some [AV.int IntKind.i64 n_1, AV.int IntKind.i64 n_2, AV.int IntKind.i64 n_3, AV.int IntKind.u64 n_4, AV.sl ((6 : Nat)) es Own.no, AV.sl ((2 : Nat)) es_1 Own.no]], live := [] }
 { boxes := [some [AV.tup [AV.int IntKind.i64 (104 : Int), AV.agg []]], some [AV.str op, AV.int IntKind.i64 param, AV.int IntKind.i64 kind, AV.int IntKind.i64 t, AV.int IntKind.i64 n, AV.sl ((6 : Nat)) (cesL l) Own.no], some [AV.int IntKind.i64 (0 : Int), AV.int IntKind.i64 (0 : Int), AV.str []], some [AV.int IntKind.i64 y.snd.ev, AV.int IntKind.i64 y.snd.st.n, AV.int IntKind.i64 y.snd.st.h, AV.int IntKind.u64 y.snd.st.l, AV.sl ((6 : Nat)) (itsL y.snd.st.its) Own.no, AV.sl ((2 : Nat)) (bksL y.snd.st.bks) Own.no]], live := [] } ∧
 ((1 : Nat) ≤ y.fst ∧ y.fst ≤ l.length ∧ l[(0 : Nat)]? = some y.snd) ∧ True) ∧
 ∀ (x : Nat × CeI),
 (1 : Nat) ≤ x.fst ∧ x.fst ≤ l.length ∧ l[(0 : Nat)]? = some x.snd →
 (decide ((↑x.fst : Int) < (↑l.length : Int)) = true →
 ((0 : Int) ≤ (↑x.fst : Int) ∧ (↑x.fst : Int) < (↑(cesL l).length : Int)) ∧
 ∃ (n_5 : Int),
 ∃ (n_6 : Int),
 ∃ (n_7 : Int),
 ∃ (n_8 : Int),
 ∃ (es : List AV),
 ∃ (es_3 : List AV),
 takeAt PA ((42 : Nat)) (cesL l) (↑x.fst : Int).toNat ((0 : Nat)) =
 some
 (AV.agg
 [AV.int IntKind.i64 n_5, AV.int IntKind.i64 n_6, AV.int IntKind.i64 n_7, AV.int IntKind.u64 n_8,
 AV.sl ((6 : Nat)) es Own.no, AV.sl ((2 : Nat)) es_3 Own.no]) ∧
 ∃ (es : List AV),
 CallIs
 (tbl [((112 : Nat), s66), ((114 : Nat), s68)] ((112 : Nat))
 [AV.sl ((2 : Nat)) (bksL (mrgB (List.take x.fst l))) Own.no, AV.sl ((2 : Nat)) es_3 Own.no])
 (AV.sl ((2 : Nat)) es Own.no) [] ∧
 ∃ (y : Nat × CeI),
 ValsAre
 [AV.ptr ((1 : Nat)) ((0 : Nat)), AV.ptr ((2 : Nat)) ((0 : Nat)), AV.sl ((2 : Nat)) es Own.no,
 AV.sl ((6 : Nat)) (cesL l) Own.no, AV.int IntKind.i64 (↑l.length : Int),
 AV.int IntKind.i64 (IntKind.i64.wrap ((↑x.fst : Int) + (1 : Int)))]
 [AV.ptr ((1 : Nat)) ((0 : Nat)), AV.ptr ((2 : Nat)) ((0 : Nat)),
 AV.sl ((2 : Nat)) (bksL (mrgB (List.take y.fst l))) Own.no, AV.sl ((6 : Nat)) (cesL l) Own.no,
 AV.int IntKind.i64 (↑l.length : Int), AV.int IntKind.i64 (↑y.fst : Int)] ∧
 StIs
 { boxes := [some [AV.tup [AV.int IntKind.i64 (104 : Int), AV.agg []]], some [AV.str op, AV.int IntKind.i64 param, AV.int IntKind.i64 kind, AV.int IntKind.i64 t, AV.int IntKind.i64 n, AV.sl ((6 : Nat)) (cesL l) Own.no], some [AV.int IntKind.i64 (0 : Int), AV.int IntKind.i64 (0 : Int), AV.str []], some [AV.int IntKind.i64 x.snd.ev, AV.int IntKind.i64 x.snd.st.n, AV.int IntKind.i64 x.snd.st.h, AV.int IntKind.u64 x.snd.st.l, AV.sl ((6 : Nat)) (itsL x.snd.st.its) Own.no, AV.sl ((2 : Nat)) (bksL x.snd.st.bks) Own.no]], live := [] }
 { boxes := [some [AV.tup [AV.int IntKind.i64 (104 : Int), AV.agg []]], some [AV.str op, AV.int IntKind.i64 param, AV.int IntKind.i64 kind, AV.int IntKind.i64 t, AV.int IntKind.i64 n, AV.sl ((6 : Nat)) (cesL l) Own.no], some [AV.int IntKind.i64 (0 : Int), AV.int IntKind.i64 (0 : Int), AV.str []], some [AV.int IntKind.i64 y.snd.ev, AV.int IntKind.i64 y.snd.st.n, AV.int IntKind.i64 y.snd.st.h, AV.int IntKind.u64 y.snd.st.l, AV.sl ((6 : Nat)) (itsL y.snd.st.its) Own.no, AV.sl ((2 : Nat)) (bksL y.snd.st.bks) Own.no]], live := [] } ∧
 ((1 : Nat) ≤ y.fst ∧ y.fst ≤ l.length ∧ l[(0 : Nat)]? = some y.snd) ∧
 l.length - y.fst < l.length - x.fst) ∧
 (decide ((↑x.fst : Int) < (↑l.length : Int)) = false →
 ∃ (n : Int),
 ∃ (b : Bool),
 CallIs
 (tbl [((112 : Nat), s66), ((114 : Nat), s68)] ((114 : Nat))
 [AV.sl ((2 : Nat)) (bksL (mrgB (List.take x.fst l))) Own.no, AV.int IntKind.i64 param])
 (AV.tup [AV.int IntKind.i64 n, AV.bool b]) [] ∧
 (b = true →
 ((kind == (2 : Int)) = true →
 RetIs (AV.agg [AV.int IntKind.i64 (2 : Int), AV.int IntKind.i64 n, AV.str []]) [] (r, [])) ∧
 ((kind == (2 : Int)) = false →
 RetIs (AV.agg [AV.int IntKind.i64 (3 : Int), AV.int IntKind.i64 n, AV.str []]) [] (r, []))) ∧
 (b = false → RetIs (AV.agg [AV.int IntKind.i64 (0 : Int), AV.int IntKind.i64 (0 : Int), AV.str []]) [] (r, [])))) ∧
  (decide ((0 : Int) < (↑(cesL l).length : Int)) = false →
    ∃ (n : Int),
      ∃ (b : Bool),
        CallIs (some (AV.tup [AV.int IntKind.i64 ((quantile [] param).getD (0 : Int)), AV.bool (quantile [] param).isSome], []))
 (AV.tup [AV.int IntKind.i64 n, AV.bool b]) [] ∧
 (b = true →
 ((kind == (2 : Int)) = true → RetIs (AV.agg [AV.int IntKind.i64 (2 : Int), AV.int IntKind.i64 n, AV.str []]) [] (r, [])) ∧
 ((kind == (2 : Int)) = false → RetIs (AV.agg [AV.int IntKind.i64 (3 : Int), AV.int IntKind.i64 n, AV.str []]) [] (r, []))) ∧
 (b = false → RetIs (AV.agg [AV.int IntKind.i64 (0 : Int), AV.int IntKind.i64 (0 : Int), AV.str []]) [] (r, [])))) := by kernel_rfl
theorem w101 (f : Bool) (op : List UInt8) (param kind t n : Int) (l : List CeI) (r : AV) : (pureW PA GA XN (tbl [(149, s104), (35, s105)]) (itbl []) (a101 f op param kind t n l) [] 146 [.agg [.bool f], .agg (qC op param kind t n l)] (r, [])) =
(((op == [(100 : UInt8), (105 : UInt8), (115 : UInt8), (116 : UInt8), (105 : UInt8), (110 : UInt8), (99 : UInt8), (116 : UInt8)]) = true →
    ∃ (n : Int),
      CallIs (tbl [((149 : Nat), s104), ((35 : Nat), s105)] ((149 : Nat)) [AV.sl ((6 : Nat)) (cesL l) Own.no]) (AV.int IntKind.i64 n) [] ∧
        RetIs (AV.agg [AV.int IntKind.i64 (2 : Int), AV.int IntKind.i64 n, AV.str []]) [] (r, [])) ∧
  ((op == [(100 : UInt8), (105 : UInt8), (115 : UInt8), (116 : UInt8), (105 : UInt8), (110 : UInt8), (99 : UInt8), (116 : UInt8)]) = false →
    (∃ (y : Nat × Bst),
        ValsAre
 [AV.ptr ((1 : Nat)) ((0 : Nat)), AV.ptr ((2 : Nat)) ((0 : Nat)), AV.ptr ((3 : Nat)) ((0 : Nat)), AV.bool false, AV.sl ((6 : Nat)) (cesL l) Own.no,
 AV.int IntKind.i64 (↑(cesL l).length : Int), AV.int IntKind.i64 (0 : Int)]
 [AV.ptr ((1 : Nat)) ((0 : Nat)), AV.ptr ((2 : Nat)) ((0 : Nat)), AV.ptr ((3 : Nat)) ((0 : Nat)), AV.bool y.snd.f, AV.sl ((6 : Nat)) (cesL l) Own.no,
 AV.int IntKind.i64 (↑l.length : Int), AV.int IntKind.i64 (↑y.fst : Int)] ∧
 StIs
 { boxes := [some [AV.tup [AV.int IntKind.i64 (106 : Int), AV.agg [AV.bool f]]], some [AV.str op, AV.int IntKind.i64 param, AV.int IntKind.i64 kind, AV.int IntKind.i64 t, AV.int IntKind.i64 n, AV.sl ((6 : Nat)) (cesL l) Own.no], some [AV.int IntKind.i64 (0 : Int), AV.int IntKind.i64 (0 : Int), AV.str []], some [AV.int IntKind.i64 (0 : Int), AV.int IntKind.i64 (0 : Int), AV.str []]], live := [] }
 { boxes := [some [AV.tup [AV.int IntKind.i64 (106 : Int), AV.agg [AV.bool f]]], some [AV.str op, AV.int IntKind.i64 param, AV.int IntKind.i64 kind, AV.int IntKind.i64 t, AV.int IntKind.i64 n, AV.sl ((6 : Nat)) (cesL l) Own.no], some [AV.int IntKind.i64 (0 : Int), AV.int IntKind.i64 (0 : Int), AV.str []], some [AV.int IntKind.i64 y.snd.k, AV.int IntKind.i64 y.snd.n, AV.str y.snd.s]], live := [] } ∧
 (y.fst ≤ l.length ∧ bestP op (itsOf (List.take y.fst l)) = y.snd) ∧ True) ∧
      ∀ (x : Nat × Bst),
        x.fst ≤ l.length ∧ bestP op (itsOf (List.take x.fst l)) = x.snd →
 (x.snd.f = true →
 (decide ((↑x.fst : Int) < (↑l.length : Int)) = true →
 ((0 : Int) ≤ (↑x.fst : Int) ∧ (↑x.fst : Int) < (↑(cesL l).length : Int)) ∧
 ∃ (n_1 : Int),
 ∃ (n_2 : Int),
 ∃ (n_3 : Int),
 ∃ (n_4 : Int),
 ∃ (es : List AV),
 ∃ (es_1 : List AV),
 takeAt PA ((42 : Nat)) (cesL l) (↑x.fst : Int).toNat ((0 : Nat)) =
 some
 (AV.agg
 [AV.int IntKind.i64 n_1, AV.int IntKind.i64 n_2, AV.int IntKind.i64 n_3, AV.int IntKind.u64 n_4,
 AV.sl ((6 : Nat)) es Own.no, AV.sl ((2 : Nat)) es_1 Own.no]) ∧
 (∃ (y : K9),
 ValsAre
 [AV.ptr ((1 : Nat)) ((0 : Nat)), AV.ptr ((2 : Nat)) ((0 : Nat)), AV.ptr ((3 : Nat)) ((0 : Nat)), AV.bool true,
 AV.sl ((6 : Nat)) (cesL l) Own.no, AV.int IntKind.i64 (↑l.length : Int), AV.int IntKind.i64 (↑x.fst : Int),
 AV.sl ((6 : Nat)) es Own.no, AV.int IntKind.i64 (↑es.length : Int), AV.int IntKind.i64 (0 : Int)]
 [AV.ptr ((1 : Nat)) ((0 : Nat)), AV.ptr ((2 : Nat)) ((0 : Nat)), AV.ptr ((3 : Nat)) ((0 : Nat)), AV.bool y.b.f,
 AV.sl ((6 : Nat)) (cesL l) Own.no, AV.int IntKind.i64 (↑l.length : Int), AV.int IntKind.i64 (↑y.i : Int),
 AV.sl ((6 : Nat)) (itsL y.c.st.its) Own.no, AV.int IntKind.i64 (↑y.c.st.its.length : Int),
 AV.int IntKind.i64 (↑y.j : Int)] ∧
 StIs
 { boxes := [some [AV.tup [AV.int IntKind.i64 (106 : Int), AV.agg [AV.bool f]]], some [AV.str op, AV.int IntKind.i64 param, AV.int IntKind.i64 kind, AV.int IntKind.i64 t, AV.int IntKind.i64 n, AV.sl ((6 : Nat)) (cesL l) Own.no], some [AV.int IntKind.i64 (0 : Int), AV.int IntKind.i64 (0 : Int), AV.str []], some [AV.int IntKind.i64 x.snd.k, AV.int IntKind.i64 x.snd.n, AV.str x.snd.s], some [AV.int IntKind.i64 n_1, AV.int IntKind.i64 n_2, AV.int IntKind.i64 n_3, AV.int IntKind.u64 n_4, AV.sl ((6 : Nat)) es Own.no, AV.sl ((2 : Nat)) es_1 Own.no]], live := [] }
 { boxes := [some [AV.tup [AV.int IntKind.i64 (106 : Int), AV.agg [AV.bool f]]], some [AV.str op, AV.int IntKind.i64 param, AV.int IntKind.i64 kind, AV.int IntKind.i64 t, AV.int IntKind.i64 n, AV.sl ((6 : Nat)) (cesL l) Own.no], some [AV.int IntKind.i64 (0 : Int), AV.int IntKind.i64 (0 : Int), AV.str []], some [AV.int IntKind.i64 y.b.k, AV.int IntKind.i64 y.b.n, AV.str y.b.s], some [AV.int IntKind.i64 y.c.ev, AV.int IntKind.i64 y.c.st.n, AV.int IntKind.i64 y.c.st.h, AV.int IntKind.u64 y.c.st.l, AV.sl ((6 : Nat)) (itsL y.c.st.its) Own.no, AV.sl ((2 : Nat)) (bksL y.c.st.bks) Own.no]], live := [] } ∧
 (l[y.i]? = some y.c ∧
 y.j ≤ y.c.st.its.length ∧ bestP op (itsOf (List.take y.i l) ++ List.take y.j y.c.st.its) = y.b) ∧
 some (AV.int IntKind.i64 (↑x.fst : Int)) = some (AV.int IntKind.i64 (↑y.i : Int))) ∧
 ∀ (x_1 : K9),
 l[x_1.i]? = some x_1.c ∧
 x_1.j ≤ x_1.c.st.its.length ∧ bestP op (itsOf (List.take x_1.i l) ++ List.take x_1.j x_1.c.st.its) = x_1.b →
 some (AV.int IntKind.i64 (↑x.fst : Int)) = some (AV.int IntKind.i64 (↑x_1.i : Int)) →
 (x_1.b.f = true →
 (decide ((↑x_1.j : Int) < (↑x_1.c.st.its.length : Int)) = true →
 ((0 : Int) ≤ (↑x_1.j : Int) ∧ (↑x_1.j : Int) < (↑(itsL x_1.c.st.its).length : Int)) ∧
 ∃ (n_5 : Int),
 ∃ (n_6 : Int),
 ∃ (s : List UInt8),
 ∃ (s_1 : List UInt8),
 ∃ (n_7 : Int),
 ∃ (n_8 : Int),
 takeAt PA ((51 : Nat)) (itsL x_1.c.st.its) (↑x_1.j : Int).toNat ((0 : Nat)) =
 some
 (AV.agg
 [AV.int IntKind.i64 n_5, AV.int IntKind.i64 n_6, AV.str s, AV.str s_1,
 AV.int IntKind.i64 n_7, AV.int IntKind.i64 n_8]) ∧
 (decide (n_8 ≤ (0 : Int)) = true →
 ∃ (y : K9),
 ValsAre
 [AV.ptr ((1 : Nat)) ((0 : Nat)), AV.ptr ((2 : Nat)) ((0 : Nat)),
 AV.ptr ((3 : Nat)) ((0 : Nat)), AV.bool true, AV.sl ((6 : Nat)) (cesL l) Own.no,
 AV.int IntKind.i64 (↑l.length : Int), AV.int IntKind.i64 (↑x_1.i : Int),
 AV.sl ((6 : Nat)) (itsL x_1.c.st.its) Own.no,
 AV.int IntKind.i64 (↑x_1.c.st.its.length : Int),
 AV.int IntKind.i64 (IntKind.i64.wrap ((↑x_1.j : Int) + (1 : Int)))]
 [AV.ptr ((1 : Nat)) ((0 : Nat)), AV.ptr ((2 : Nat)) ((0 : Nat)),
 AV.ptr ((3 : Nat)) ((0 : Nat)), AV.bool y.b.f, AV.sl ((6 : Nat)) (cesL l) Own.no,
 AV.int IntKind.i64 (↑l.length : Int), AV.int IntKind.i64 (↑y.i : Int),
 AV.sl ((6 : Nat)) (itsL y.c.st.its) Own.no,
 AV.int IntKind.i64 (↑y.c.st.its.length : Int), AV.int IntKind.i64 (↑y.j : Int)] ∧
 StIs
 { boxes := [some [AV.tup [AV.int IntKind.i64 (106 : Int), AV.agg [AV.bool f]]], some [AV.str op, AV.int IntKind.i64 param, AV.int IntKind.i64 kind, AV.int IntKind.i64 t, AV.int IntKind.i64 n, AV.sl ((6 : Nat)) (cesL l) Own.no], some [AV.int IntKind.i64 (0 : Int), AV.int IntKind.i64 (0 : Int), AV.str []], some [AV.int IntKind.i64 x_1.b.k, AV.int IntKind.i64 x_1.b.n, AV.str x_1.b.s], some [AV.int IntKind.i64 x_1.c.ev, AV.int IntKind.i64 x_1.c.st.n, AV.int IntKind.i64 x_1.c.st.h, AV.int IntKind.u64 x_1.c.st.l, AV.sl ((6 : Nat)) (itsL x_1.c.st.its) Own.no, AV.sl ((2 : Nat)) (bksL x_1.c.st.bks) Own.no]], live := [] }
 { boxes := [some [AV.tup [AV.int IntKind.i64 (106 : Int), AV.agg [AV.bool f]]], some [AV.str op, AV.int IntKind.i64 param, AV.int IntKind.i64 kind, AV.int IntKind.i64 t, AV.int IntKind.i64 n, AV.sl ((6 : Nat)) (cesL l) Own.no], some [AV.int IntKind.i64 (0 : Int), AV.int IntKind.i64 (0 : Int), AV.str []], some [AV.int IntKind.i64 y.b.k, AV.int IntKind.i64 y.b.n, AV.str y.b.s], some [AV.int IntKind.i64 y.c.ev, AV.int IntKind.i64 y.c.st.n, AV.int IntKind.i64 y.c.st.h, AV.int IntKind.u64 y.c.st.l, AV.sl ((6 : Nat)) (itsL y.c.st.its) Own.no, AV.sl ((2 : Nat)) (bksL y.c.st.bks) Own.no]], live := [] } ∧
 (l[y.i]? = some y.c ∧
 y.j ≤ y.c.st.its.length ∧
 bestP op (itsOf (List.take y.i l) ++ List.take y.j y.c.st.its) = y.b) ∧
 some (AV.int IntKind.i64 (↑x.fst : Int)) =
 some (AV.int IntKind.i64 (↑y.i : Int)) ∧
 y.c.st.its.length - y.j < x_1.c.st.its.length - x_1.j) ∧
 (decide (n_8 ≤ (0 : Int)) = false →
 ∃ (n_9 : Int),
 CallIs (some (AV.int IntKind.i64 (cmpV n_5 n_6 s x_1.b.k x_1.b.n x_1.b.s), []))
 (AV.int IntKind.i64 n_9) [] ∧
 ((op == [(108 : UInt8), (97 : UInt8), (115 : UInt8), (116 : UInt8)]) = true →
 ∃ (y : K9),
 ValsAre
 [AV.ptr ((1 : Nat)) ((0 : Nat)), AV.ptr ((2 : Nat)) ((0 : Nat)),
 AV.ptr ((3 : Nat)) ((0 : Nat)), AV.bool true,
 AV.sl ((6 : Nat)) (cesL l) Own.no, AV.int IntKind.i64 (↑l.length : Int),
 AV.int IntKind.i64 (↑x_1.i : Int),
 AV.sl ((6 : Nat)) (itsL x_1.c.st.its) Own.no,
 AV.int IntKind.i64 (↑x_1.c.st.its.length : Int),
 AV.int IntKind.i64 (IntKind.i64.wrap ((↑x_1.j : Int) + (1 : Int)))]
 [AV.ptr ((1 : Nat)) ((0 : Nat)), AV.ptr ((2 : Nat)) ((0 : Nat)),
 AV.ptr ((3 : Nat)) ((0 : Nat)), AV.bool y.b.f,
 AV.sl ((6 : Nat)) (cesL l) Own.no, AV.int IntKind.i64 (↑l.length : Int),
 AV.int IntKind.i64 (↑y.i : Int),
 AV.sl ((6 : Nat)) (itsL y.c.st.its) Own.no,
 AV.int IntKind.i64 (↑y.c.st.its.length : Int),
 AV.int IntKind.i64 (↑y.j : Int)] ∧
 StIs
 { boxes := [some [AV.tup [AV.int IntKind.i64 (106 : Int), AV.agg [AV.bool f]]], some [AV.str op, AV.int IntKind.i64 param, AV.int IntKind.i64 kind, AV.int IntKind.i64 t, AV.int IntKind.i64 n, AV.sl ((6 : Nat)) (cesL l) Own.no], some [AV.int IntKind.i64 (0 : Int), AV.int IntKind.i64 (0 : Int), AV.str []], some [AV.int IntKind.i64 n_5, AV.int IntKind.i64 n_6, AV.str s], some [AV.int IntKind.i64 x_1.c.ev, AV.int IntKind.i64 x_1.c.st.n, AV.int IntKind.i64 x_1.c.st.h, AV.int IntKind.u64 x_1.c.st.l, AV.sl ((6 : Nat)) (itsL x_1.c.st.its) Own.no, AV.sl ((2 : Nat)) (bksL x_1.c.st.bks) Own.no]], live := [] }
 { boxes := [some [AV.tup [AV.int IntKind.i64 (106 : Int), AV.agg [AV.bool f]]], some [AV.str op, AV.int IntKind.i64 param, AV.int IntKind.i64 kind, AV.int IntKind.i64 t, AV.int IntKind.i64 n, AV.sl ((6 : Nat)) (cesL l) Own.no], some [AV.int IntKind.i64 (0 : Int), AV.int IntKind.i64 (0 : Int), AV.str []], some [AV.int IntKind.i64 y.b.k, AV.int IntKind.i64 y.b.n, AV.str y.b.s], some [AV.int IntKind.i64 y.c.ev, AV.int IntKind.i64 y.c.st.n, AV.int IntKind.i64 y.c.st.h, AV.int IntKind.u64 y.c.st.l, AV.sl ((6 : Nat)) (itsL y.c.st.its) Own.no, AV.sl ((2 : Nat)) (bksL y.c.st.bks) Own.no]], live := [] } ∧
 (l[y.i]? = some y.c ∧
 y.j ≤ y.c.st.its.length ∧
 bestP op (itsOf (List.take y.i l) ++ List.take y.j y.c.st.its) =
 y.b) ∧
 some (AV.int IntKind.i64 (↑x.fst : Int)) =
 some (AV.int IntKind.i64 (↑y.i : Int)) ∧
 y.c.st.its.length - y.j < x_1.c.st.its.length - x_1.j) ∧
 ((op == [(108 : UInt8), (97 : UInt8), (115 : UInt8), (116 : UInt8)]) = false →
 ((op == [(109 : UInt8), (105 : UInt8), (110 : UInt8)]) = true →
 (decide (n_9 < (0 : Int)) = true →
 ∃ (y : K9),
 ValsAre
 [AV.ptr ((1 : Nat)) ((0 : Nat)), AV.ptr ((2 : Nat)) ((0 : Nat)),
 AV.ptr ((3 : Nat)) ((0 : Nat)), AV.bool true,
 AV.sl ((6 : Nat)) (cesL l) Own.no,
 AV.int IntKind.i64 (↑l.length : Int),
 AV.int IntKind.i64 (↑x_1.i : Int),
 AV.sl ((6 : Nat)) (itsL x_1.c.st.its) Own.no,
 AV.int IntKind.i64 (↑x_1.c.st.its.length : Int),
 AV.int IntKind.i64
 (IntKind.i64.wrap ((↑x_1.j : Int) + (1 : Int)))]
 [AV.ptr ((1 : Nat)) ((0 : Nat)), AV.ptr ((2 : Nat)) ((0 : Nat)),
 AV.ptr ((3 : Nat)) ((0 : Nat)), AV.bool y.b.f,
 AV.sl ((6 : Nat)) (cesL l) Own.no,
 AV.int IntKind.i64 (↑l.length : Int),
 AV.int IntKind.i64 (↑y.i : Int),
 AV.sl ((6 : Nat)) (itsL y.c.st.its) Own.no,
 AV.int IntKind.i64 (↑y.c.st.its.length : Int),
 AV.int IntKind.i64 (↑y.j : Int)] ∧
 StIs
 { boxes := [some [AV.tup [AV.int IntKind.i64 (106 : Int), AV.agg [AV.bool f]]], some [AV.str op, AV.int IntKind.i64 param, AV.int IntKind.i64 kind, AV.int IntKind.i64 t, AV.int IntKind.i64 n, AV.sl ((6 : Nat)) (cesL l) Own.no], some [AV.int IntKind.i64 (0 : Int), AV.int IntKind.i64 (0 : Int), AV.str []], some [AV.int IntKind.i64 n_5, AV.int IntKind.i64 n_6, AV.str s], some [AV.int IntKind.i64 x_1.c.ev, AV.int IntKind.i64 x_1.c.st.n, AV.int IntKind.i64 x_1.c.st.h, AV.int IntKind.u64 x_1.c.st.l, AV.sl ((6 : Nat)) (itsL x_1.c.st.its) Own.no, AV.sl ((2 : Nat)) (bksL x_1.c.st.bks) Own.no]], live := [] }
 { boxes := [some [AV.tup [AV.int IntKind.i64 (106 : Int), AV.agg [AV.bool f]]], some [AV.str op, AV.int IntKind.i64 param, AV.int IntKind.i64 kind, AV.int IntKind.i64 t, AV.int IntKind.i64 n, AV.sl ((6 : Nat)) (cesL l) Own.no], some [AV.int IntKind.i64 (0 : Int), AV.int IntKind.i64 (0 : Int), AV.str []], some [AV.int IntKind.i64 y.b.k, AV.int IntKind.i64 y.b.n, AV.str y.b.s], some [AV.int IntKind.i64 y.c.ev, AV.int IntKind.i64 y.c.st.n, AV.int IntKind.i64 y.c.st.h, AV.int IntKind.u64 y.c.st.l, AV.sl ((6 : Nat)) (itsL y.c.st.its) Own.no, AV.sl ((2 : Nat)) (bksL y.c.st.bks) Own.no]], live := [] } ∧
 (l[y.i]? = some y.c ∧
 y.j ≤ y.c.st.its.length ∧
 bestP op
 (itsOf (List.take y.i l) ++ List.take y.j y.c.st.its) =
 y.b) ∧
 some (AV.int IntKind.i64 (↑x.fst : Int)) =
 some (AV.int IntKind.i64 (↑y.i : Int)) ∧
 y.c.st.its.length - y.j < x_1.c.st.its.length - x_1.j) ∧
 (decide (n_9 < (0 : Int)) = false →
 ((op == [(109 : UInt8), (97 : UInt8), (120 : UInt8)]) = true →
 (decide (n_9 > (0 : Int)) = true →
 ∃ (y : K9),
 ValsAre
 [AV.ptr ((1 : Nat)) ((0 : Nat)),
 AV.ptr ((2 : Nat)) ((0 : Nat)),
 AV.ptr ((3 : Nat)) ((0 : Nat)), AV.bool true,
 AV.sl ((6 : Nat)) (cesL l) Own.no,
 AV.int IntKind.i64 (↑l.length : Int),
 AV.int IntKind.i64 (↑x_1.i : Int),
 AV.sl ((6 : Nat)) (itsL x_1.c.st.its) Own.no,
 AV.int IntKind.i64 (↑x_1.c.st.its.length : Int),
 AV.int IntKind.i64
 (IntKind.i64.wrap ((↑x_1.j : Int) + (1 : Int)))]
 [AV.ptr ((1 : Nat)) ((0 : Nat)),
 AV.ptr ((2 : Nat)) ((0 : Nat)),
 AV.ptr ((3 : Nat)) ((0 : Nat)), AV.bool y.b.f,
 AV.sl ((6 : Nat)) (cesL l) Own.no,
 AV.int IntKind.i64 (↑l.length : Int),
 AV.int IntKind.i64 (↑y.i : Int),
 AV.sl ((6 : Nat)) (itsL y.c.st.its) Own.no,
 AV.int IntKind.i64 (↑y.c.st.its.length : Int),
 AV.int IntKind.i64 (↑y.j : Int)] ∧
 StIs
 { boxes := [some [AV.tup [AV.int IntKind.i64 (106 : Int), AV.agg [AV.bool f]]], some [AV.str op, AV.int IntKind.i64 param, AV.int IntKind.i64 kind, AV.int IntKind.i64 t, AV.int IntKind.i64 n, AV.sl ((6 : Nat)) (cesL l) Own.no], some [AV.int IntKind.i64 (0 : Int), AV.int IntKind.i64 (0 : Int), AV.str []], some [AV.int IntKind.i64 n_5, AV.int IntKind.i64 n_6, AV.str s], some [AV.int IntKind.i64 x_1.c.ev, AV.int IntKind.i64 x_1.c.st.n, AV.int IntKind.i64 x_1.c.st.h, AV.int IntKind.u64 x_1.c.st.l, AV.sl ((6 : Nat)) (itsL x_1.c.st.its) Own.no, AV.sl ((2 : Nat)) (bksL x_1.c.st.bks) Own.no]], live := [] }
 { boxes := [some [AV.tup [AV.int IntKind.i64 (106 : Int), AV.agg [AV.bool f]]], some [AV.str op, AV.int IntKind.i64 param, AV.int IntKind.i64 kind, AV.int IntKind.i64 t, AV.int IntKind.i64 n, AV.sl ((6 : Nat)) (cesL l) Own.no], some [AV.int IntKind.i64 (0 : Int), AV.int IntKind.i64 (0 : Int), AV.str []], some [AV.int IntKind.i64 y.b.k, AV.int IntKind.i64 y.b.n, AV.str y.b.s], some [AV.int IntKind.i64 y.c.ev, AV.int IntKind.i64 y.c.st.n, AV.int IntKind.i64 y.c.st.h, AV.int IntKind.u64 y.c.st.l, AV.sl ((6 : Nat)) (itsL y.c.st.its) Own.no, AV.sl ((2 : Nat)) (bksL y.c.st.bks) Own.no]], live := [] } ∧
 (l[y.i]? = some y.c ∧
 y.j ≤ y.c.st.its.length ∧
 bestP op
 (itsOf (List.take y.i l) ++
 List.take y.j y.c.st.its) =
 y.b) ∧
 some (AV.int IntKind.i64 (↑x.fst : Int)) =
 some (AV.int IntKind.i64 (↑y.i : Int)) ∧
 y.c.st.its.length - y.j < x_1.c.st.its.length - x_1.j) ∧
 (decide (n_9 > (0 : Int)) = false →
 ∃ (y : K9),
 ValsAre
 [AV.ptr ((1 : Nat)) ((0 : Nat)),
 AV.ptr ((2 : Nat)) ((0 : Nat)),
 AV.ptr ((3 : Nat)) ((0 : Nat)), AV.bool true,
 AV.sl ((6 : Nat)) (cesL l) Own.no,
 AV.int IntKind.i64 (↑l.length : Int),
 AV.int IntKind.i64 (↑x_1.i : Int),
 AV.sl ((6 : Nat)) (itsL x_1.c.st.its) Own.no,
 AV.int IntKind.i64 (↑x_1.c.st.its.length : Int),
 AV.int IntKind.i64
 (IntKind.i64.wrap ((↑x_1.j : Int) + (1 : Int)))]
 [AV.ptr ((1 : Nat)) ((0 : Nat)),
 AV.ptr ((2 : Nat)) ((0 : Nat)),
 AV.ptr ((3 : Nat)) ((0 : Nat)), AV.bool y.b.f,
 AV.sl ((6 : Nat)) (cesL l) Own.no,
 AV.int IntKind.i64 (↑l.length : Int),
 AV.int IntKind.i64 (↑y.i : Int),
 AV.sl ((6 : Nat)) (itsL y.c.st.its) Own.no,
 AV.int IntKind.i64 (↑y.c.st.its.length : Int),
 AV.int IntKind.i64 (↑y.j : Int)] ∧
 StIs
 { boxes := [some [AV.tup [AV.int IntKind.i64 (106 : Int), AV.agg [AV.bool f]]], some [AV.str op, AV.int IntKind.i64 param, AV.int IntKind.i64 kind, AV.int IntKind.i64 t, AV.int IntKind.i64 n, AV.sl ((6 : Nat)) (cesL l) Own.no], some [AV.int IntKind.i64 (0 : Int), AV.int IntKind.i64 (0 : Int), AV.str []], some [AV.int IntKind.i64 x_1.b.k, AV.int IntKind.i64 x_1.b.n, AV.str x_1.b.s], some [AV.int IntKind.i64 x_1.c.ev, AV.int IntKind.i64 x_1.c.st.n, AV.int IntKind.i64 x_1.c.st.h, AV.int IntKind.u64 x_1.c.st.l, AV.sl ((6 : Nat)) (itsL x_1.c.st.its) Own.no, AV.sl ((2 : Nat)) (bksL x_1.c.st.bks) Own.no]], live := [] }
 { boxes := [some [AV.tup [AV.int IntKind.i64 (106 : Int), AV.agg [AV.bool f]]], some [AV.str op, AV.int IntKind.i64 param, AV.int IntKind.i64 kind, AV.int IntKind.i64 t, AV.int IntKind.i64 n, AV.sl ((6 : Nat)) (cesL l) Own.no], some [AV.int IntKind.i64 (0 : Int), AV.int IntKind.i64 (0 : Int), AV.str []], some [AV.int IntKind.i64 y.b.k, AV.int IntKind.i64 y.b.n, AV.str y.b.s], some [AV.int IntKind.i64 y.c.ev, AV.int IntKind.i64 y.c.st.n, AV.int IntKind.i64 y.c.st.h, AV.int IntKind.u64 y.c.st.l, AV.sl ((6 : Nat)) (itsL y.c.st.its) Own.no, AV.sl ((2 : Nat)) (bksL y.c.st.bks) Own.no]], live := [] } ∧
 (l[y.i]? = some y.c ∧
 y.j ≤ y.c.st.its.length ∧
 bestP op
 (itsOf (List.take y.i l) ++
 List.take y.j y.c.st.its) =
 y.b) ∧
 some (AV.int IntKind.i64 (↑x.fst : Int)) =
 some (AV.int IntKind.i64 (↑y.i : Int)) ∧
 y.c.st.its.length - y.j <
 x_1.c.st.its.length - x_1.j)) ∧
 ((op == [(109 : UInt8), (97 : UInt8), (120 : UInt8)]) = false →
 ∃ (y : K9),
 ValsAre
 [AV.ptr ((1 : Nat)) ((0 : Nat)), AV.ptr ((2 : Nat)) ((0 : Nat)),
 AV.ptr ((3 : Nat)) ((0 : Nat)), AV.bool true,
 AV.sl ((6 : Nat)) (cesL l) Own.no,
 AV.int IntKind.i64 (↑l.length : Int),
 AV.int IntKind.i64 (↑x_1.i : Int),
 AV.sl ((6 : Nat)) (itsL x_1.c.st.its) Own.no,
 AV.int IntKind.i64 (↑x_1.c.st.its.length : Int),
 AV.int IntKind.i64
 (IntKind.i64.wrap ((↑x_1.j : Int) + (1 : Int)))]
 [AV.ptr ((1 : Nat)) ((0 : Nat)), AV.ptr ((2 : Nat)) ((0 : Nat)),
 AV.ptr ((3 : Nat)) ((0 : Nat)), AV.bool y.b.f,
 AV.sl ((6 : Nat)) (cesL l) Own.no,
 AV.int IntKind.i64 (↑l.length : Int),
 AV.int IntKind.i64 (↑y.i : Int),
 AV.sl ((6 : Nat)) (itsL y.c.st.its) Own.no,
 AV.int IntKind.i64 (↑y.c.st.its.length : Int),
 AV.int IntKind.i64 (↑y.j : Int)] ∧
 StIs
 { boxes := [some [AV.tup [AV.int IntKind.i64 (106 : Int), AV.agg [AV.bool f]]], some [AV.str op, AV.int IntKind.i64 param, AV.int IntKind.i64 kind, AV.int IntKind.i64 t, AV.int IntKind.i64 n, AV.sl ((6 : Nat)) (cesL l) Own.no], some [AV.int IntKind.i64 (0 : Int), AV.int IntKind.i64 (0 : Int), AV.str []], some [AV.int IntKind.i64 x_1.b.k, AV.int IntKind.i64 x_1.b.n, AV.str x_1.b.s], some [AV.int IntKind.i64 x_1.c.ev, AV.int IntKind.i64 x_1.c.st.n, AV.int IntKind.i64 x_1.c.st.h, AV.int IntKind.u64 x_1.c.st.l, AV.sl ((6 : Nat)) (itsL x_1.c.st.its) Own.no, AV.sl ((2 : Nat)) (bksL x_1.c.st.bks) Own.no]], live := [] }
 { boxes := [some [AV.tup [AV.int IntKind.i64 (106 : Int), AV.agg [AV.bool f]]], some [AV.str op, AV.int IntKind.i64 param, AV.int IntKind.i64 kind, AV.int IntKind.i64 t, AV.int IntKind.i64 n, AV.sl ((6 : Nat)) (cesL l) Own.no], some [AV.int IntKind.i64 (0 : Int), AV.int IntKind.i64 (0 : Int), AV.str []], some [AV.int IntKind.i64 y.b.k, AV.int IntKind.i64 y.b.n, AV.str y.b.s], some [AV.int IntKind.i64 y.c.ev, AV.int IntKind.i64 y.c.st.n, AV.int IntKind.i64 y.c.st.h, AV.int IntKind.u64 y.c.st.l, AV.sl ((6 : Nat)) (itsL y.c.st.its) Own.no, AV.sl ((2 : Nat)) (bksL y.c.st.bks) Own.no]], live := [] } ∧
 (l[y.i]? = some y.c ∧
 y.j ≤ y.c.st.its.length ∧
 bestP op
 (itsOf (List.take y.i l) ++
 List.take y.j y.c.st.its) =
 y.b) ∧
 some (AV.int IntKind.i64 (↑x.fst : Int)) =
 some (AV.int IntKind.i64 (↑y.i : Int)) ∧
 y.c.st.its.length - y.j < x_1.c.st.its.length - x_1.j))) ∧
 ((op == [(109 : UInt8), (105 : UInt8), (110 : UInt8)]) = false →
 ((op == [(109 : UInt8), (97 : UInt8), (120 : UInt8)]) = true →
 (decide (n_9 > (0 : Int)) = true →
 ∃ (y : K9),
 ValsAre
 [AV.ptr ((1 : Nat)) ((0 : Nat)), AV.ptr ((2 : Nat)) ((0 : Nat)),
 AV.ptr ((3 : Nat)) ((0 : Nat)), AV.bool true,
 AV.sl ((6 : Nat)) (cesL l) Own.no,
 AV.int IntKind.i64 (↑l.length : Int),
 AV.int IntKind.i64 (↑x_1.i : Int),
 AV.sl ((6 : Nat)) (itsL x_1.c.st.its) Own.no,
 AV.int IntKind.i64 (↑x_1.c.st.its.length : Int),
 AV.int IntKind.i64
 (IntKind.i64.wrap ((↑x_1.j : Int) + (1 : Int)))]
 [AV.ptr ((1 : Nat)) ((0 : Nat)), AV.ptr ((2 : Nat)) ((0 : Nat)),
 AV.ptr ((3 : Nat)) ((0 : Nat)), AV.bool y.b.f,
 AV.sl ((6 : Nat)) (cesL l) Own.no,
 AV.int IntKind.i64 (↑l.length : Int),
 AV.int IntKind.i64 (↑y.i : Int),
 AV.sl ((6 : Nat)) (itsL y.c.st.its) Own.no,
 AV.int IntKind.i64 (↑y.c.st.its.length : Int),
 AV.int IntKind.i64 (↑y.j : Int)] ∧
 StIs
 { boxes := [some [AV.tup [AV.int IntKind.i64 (106 : Int), AV.agg [AV.bool f]]], some [AV.str op, AV.int IntKind.i64 param, AV.int IntKind.i64 kind, AV.int IntKind.i64 t, AV.int IntKind.i64 n, AV.sl ((6 : Nat)) (cesL l) Own.no], some [AV.int IntKind.i64 (0 : Int), AV.int IntKind.i64 (0 : Int), AV.str []], some [AV.int IntKind.i64 n_5, AV.int IntKind.i64 n_6, AV.str s], some [AV.int IntKind.i64 x_1.c.ev, AV.int IntKind.i64 x_1.c.st.n, AV.int IntKind.i64 x_1.c.st.h, AV.int IntKind.u64 x_1.c.st.l, AV.sl ((6 : Nat)) (itsL x_1.c.st.its) Own.no, AV.sl ((2 : Nat)) (bksL x_1.c.st.bks) Own.no]], live := [] }
 { boxes := [some [AV.tup [AV.int IntKind.i64 (106 : Int), AV.agg [AV.bool f]]], some [AV.str op, AV.int IntKind.i64 param, AV.int IntKind.i64 kind, AV.int IntKind.i64 t, AV.int IntKind.i64 n, AV.sl ((6 : Nat)) (cesL l) Own.no], some [AV.int IntKind.i64 (0 : Int), AV.int IntKind.i64 (0 : Int), AV.str []], some [AV.int IntKind.i64 y.b.k, AV.int IntKind.i64 y.b.n, AV.str y.b.s], some [AV.int IntKind.i64 y.c.ev, AV.int IntKind.i64 y.c.st.n, AV.int IntKind.i64 y.c.st.h, AV.int IntKind.u64 y.c.st.l, AV.sl ((6 : Nat)) (itsL y.c.st.its) Own.no, AV.sl ((2 : Nat)) (bksL y.c.st.bks) Own.no]], live := [] } ∧
 (l[y.i]? = some y.c ∧
 y.j ≤ y.c.st.its.length ∧
 bestP op
 (itsOf (List.take y.i l) ++
 List.take y.j y.c.st.its) =
 y.b) ∧
 some (AV.int IntKind.i64 (↑x.fst : Int)) =
 some (AV.int IntKind.i64 (↑y.i : Int)) ∧
 y.c.st.its.length - y.j < x_1.c.st.its.length - x_1.j) ∧
 (decide (n_9 > (0 : Int)) = false →
 ∃ (y : K9),
 ValsAre
 [AV.ptr ((1 : Nat)) ((0 : Nat)), AV.ptr ((2 : Nat)) ((0 : Nat)),
 AV.ptr ((3 : Nat)) ((0 : Nat)), AV.bool true,
 AV.sl ((6 : Nat)) (cesL l) Own.no,
 AV.int IntKind.i64 (↑l.length : Int),
 AV.int IntKind.i64 (↑x_1.i : Int),
 AV.sl ((6 : Nat)) (itsL x_1.c.st.its) Own.no,
 AV.int IntKind.i64 (↑x_1.c.st.its.length : Int),
 AV.int IntKind.i64
 (IntKind.i64.wrap ((↑x_1.j : Int) + (1 : Int)))]
 [AV.ptr ((1 : Nat)) ((0 : Nat)), AV.ptr ((2 : Nat)) ((0 : Nat)),
 AV.ptr ((3 : Nat)) ((0 : Nat)), AV.bool y.b.f,
 AV.sl ((6 : Nat)) (cesL l) Own.no,
 AV.int IntKind.i64 (↑l.length : Int),
 AV.int IntKind.i64 (↑y.i : Int),
 AV.sl ((6 : Nat)) (itsL y.c.st.its) Own.no,
 AV.int IntKind.i64 (↑y.c.st.its.length : Int),
 AV.int IntKind.i64 (↑y.j : Int)] ∧
 StIs
 { boxes := [some [AV.tup [AV.int IntKind.i64 (106 : Int), AV.agg [AV.bool f]]], some [AV.str op, AV.int IntKind.i64 param, AV.int IntKind.i64 kind, AV.int IntKind.i64 t, AV.int IntKind.i64 n, AV.sl ((6 : Nat)) (cesL l) Own.no], some [AV.int IntKind.i64 (0 : Int), AV.int IntKind.i64 (0 : Int), AV.str []], some [AV.int IntKind.i64 x_1.b.k, AV.int IntKind.i64 x_1.b.n, AV.str x_1.b.s], some [AV.int IntKind.i64 x_1.c.ev, AV.int IntKind.i64 x_1.c.st.n, AV.int IntKind.i64 x_1.c.st.h, AV.int IntKind.u64 x_1.c.st.l, AV.sl ((6 : Nat)) (itsL x_1.c.st.its) Own.no, AV.sl ((2 : Nat)) (bksL x_1.c.st.bks) Own.no]], live := [] }
 { boxes := [some [AV.tup [AV.int IntKind.i64 (106 : Int), AV.agg [AV.bool f]]], some [AV.str op, AV.int IntKind.i64 param, AV.int IntKind.i64 kind, AV.int IntKind.i64 t, AV.int IntKind.i64 n, AV.sl ((6 : Nat)) (cesL l) Own.no], some [AV.int IntKind.i64 (0 : Int), AV.int IntKind.i64 (0 : Int), AV.str []], some [AV.int IntKind.i64 y.b.k, AV.int IntKind.i64 y.b.n, AV.str y.b.s], some [AV.int IntKind.i64 y.c.ev, AV.int IntKind.i64 y.c.st.n, AV.int IntKind.i64 y.c.st.h, AV.int IntKind.u64 y.c.st.l, AV.sl ((6 : Nat)) (itsL y.c.st.its) Own.no, AV.sl ((2 : Nat)) (bksL y.c.st.bks) Own.no]], live := [] } ∧
 (l[y.i]? = some y.c ∧
 y.j ≤ y.c.st.its.length ∧
 bestP op
 (itsOf (List.take y.i l) ++
 List.take y.j y.c.st.its) =
 y.b) ∧
 some (AV.int IntKind.i64 (↑x.fst : Int)) =
 some (AV.int IntKind.i64 (↑y.i : Int)) ∧
 y.c.st.its.length - y.j < x_1.c.st.its.length - x_1.j)) ∧
 ((op == [(109 : UInt8), (97 : UInt8), (120 : UInt8)]) = false →
 ∃ (y : K9),
 ValsAre
 [AV.ptr ((1 : Nat)) ((0 : Nat)), AV.ptr ((2 : Nat)) ((0 : Nat)),
 AV.ptr ((3 : Nat)) ((0 : Nat)), AV.bool true,
 AV.sl ((6 : Nat)) (cesL l) Own.no,
 AV.int IntKind.i64 (↑l.length : Int),
 AV.int IntKind.i64 (↑x_1.i : Int),
 AV.sl ((6 : Nat)) (itsL x_1.c.st.its) Own.no,
 AV.int IntKind.i64 (↑x_1.c.st.its.length : Int),
 AV.int IntKind.i64
 (IntKind.i64.wrap ((↑x_1.j : Int) + (1 : Int)))]
 [AV.ptr ((1 : Nat)) ((0 : Nat)), AV.ptr ((2 : Nat)) ((0 : Nat)),
 AV.ptr ((3 : Nat)) ((0 : Nat)), AV.bool y.b.f,
 AV.sl ((6 : Nat)) (cesL l) Own.no,
 AV.int IntKind.i64 (↑l.length : Int),
 AV.int IntKind.i64 (↑y.i : Int),
 AV.sl ((6 : Nat)) (itsL y.c.st.its) Own.no,
 AV.int IntKind.i64 (↑y.c.st.its.length : Int),
 AV.int IntKind.i64 (↑y.j : Int)] ∧
 StIs
 { boxes := [some [AV.tup [AV.int IntKind.i64 (106 : Int), AV.agg [AV.bool f]]], some [AV.str op, AV.int IntKind.i64 param, AV.int IntKind.i64 kind, AV.int IntKind.i64 t, AV.int IntKind.i64 n, AV.sl ((6 : Nat)) (cesL l) Own.no], some [AV.int IntKind.i64 (0 : Int), AV.int IntKind.i64 (0 : Int), AV.str []], some [AV.int IntKind.i64 x_1.b.k, AV.int IntKind.i64 x_1.b.n, AV.str x_1.b.s], some [AV.int IntKind.i64 x_1.c.ev, AV.int IntKind.i64 x_1.c.st.n, AV.int IntKind.i64 x_1.c.st.h, AV.int IntKind.u64 x_1.c.st.l, AV.sl ((6 : Nat)) (itsL x_1.c.st.its) Own.no, AV.sl ((2 : Nat)) (bksL x_1.c.st.bks) Own.no]], live := [] }
 { boxes := [some [AV.tup [AV.int IntKind.i64 (106 : Int), AV.agg [AV.bool f]]], some [AV.str op, AV.int IntKind.i64 param, AV.int IntKind.i64 kind, AV.int IntKind.i64 t, AV.int IntKind.i64 n, AV.sl ((6 : Nat)) (cesL l) Own.no], some [AV.int IntKind.i64 (0 : Int), AV.int IntKind.i64 (0 : Int), AV.str []], some [AV.int IntKind.i64 y.b.k, AV.int IntKind.i64 y.b.n, AV.str y.b.s], some [AV.int IntKind.i64 y.c.ev, AV.int IntKind.i64 y.c.st.n, AV.int IntKind.i64 y.c.st.h, AV.int IntKind.u64 y.c.st.l, AV.sl ((6 : Nat)) (itsL y.c.st.its) Own.no, AV.sl ((2 : Nat)) (bksL y.c.st.bks) Own.no]], live := [] } ∧
 (l[y.i]? = some y.c ∧
 y.j ≤ y.c.st.its.length ∧
 bestP op
 (itsOf (List.take y.i l) ++ List.take y.j y.c.st.its) =
 y.b) ∧
 some (AV.int IntKind.i64 (↑x.fst : Int)) =
 some (AV.int IntKind.i64 (↑y.i : Int)) ∧
 y.c.st.its.length - y.j < x_1.c.st.its.length - x_1.j))))) ∧
 (decide ((↑x_1.j : Int) < (↑x_1.c.st.its.length : Int)) = false →
 ∃ (y : Nat × Bst),
 ValsAre
 [AV.ptr ((1 : Nat)) ((0 : Nat)), AV.ptr ((2 : Nat)) ((0 : Nat)), AV.ptr ((3 : Nat)) ((0 : Nat)),
 AV.bool true, AV.sl ((6 : Nat)) (cesL l) Own.no, AV.int IntKind.i64 (↑l.length : Int),
 AV.int IntKind.i64 (IntKind.i64.wrap ((↑x_1.i : Int) + (1 : Int)))]
 [AV.ptr ((1 : Nat)) ((0 : Nat)), AV.ptr ((2 : Nat)) ((0 : Nat)), AV.ptr ((3 : Nat)) ((0 : Nat)),
 AV.bool y.snd.f, AV.sl ((6 : Nat)) (cesL l) Own.no, AV.int IntKind.i64 (↑l.length : Int),
 AV.int IntKind.i64 (↑y.fst : Int)] ∧
 StIs
 { boxes := [some [AV.tup [AV.int IntKind.i64 (106 : Int), AV.agg [AV.bool f]]], some [AV.str op, AV.int IntKind.i64 param, AV.int IntKind.i64 kind, AV.int IntKind.i64 t, AV.int IntKind.i64 n, AV.sl ((6 : Nat)) (cesL l) Own.no], some [AV.int IntKind.i64 (0 : Int), AV.int IntKind.i64 (0 : Int), AV.str []], some [AV.int IntKind.i64 x_1.b.k, AV.int IntKind.i64 x_1.b.n, AV.str x_1.b.s]], live := [] }
 { boxes := [some [AV.tup [AV.int IntKind.i64 (106 : Int), AV.agg [AV.bool f]]], some [AV.str op, AV.int IntKind.i64 param, AV.int IntKind.i64 kind, AV.int IntKind.i64 t, AV.int IntKind.i64 n, AV.sl ((6 : Nat)) (cesL l) Own.no], some [AV.int IntKind.i64 (0 : Int), AV.int IntKind.i64 (0 : Int), AV.str []], some [AV.int IntKind.i64 y.snd.k, AV.int IntKind.i64 y.snd.n, AV.str y.snd.s]], live := [] } ∧
 (y.fst ≤ l.length ∧ bestP op (itsOf (List.take y.fst l)) = y.snd) ∧
 l.length - y.fst < l.length - x.fst)) ∧
 (x_1.b.f = false →
 (decide ((↑x_1.j : Int) < (↑x_1.c.st.its.length : Int)) = true →
 ((0 : Int) ≤ (↑x_1.j : Int) ∧ (↑x_1.j : Int) < (↑(itsL x_1.c.st.its).length : Int)) ∧
 ∃ (n_5 : Int),
 ∃ (n_6 : Int),
 ∃ (s : List UInt8),
 ∃ (s_1 : List UInt8),
 ∃ (n_7 : Int),
 ∃ (n_8 : Int),
 takeAt PA ((51 : Nat)) (itsL x_1.c.st.its) (↑x_1.j : Int).toNat ((0 : Nat)) =
 some
 (AV.agg
 [AV.int IntKind.i64 n_5, AV.int IntKind.i64 n_6, AV.str s, AV.str s_1,
 AV.int IntKind.i64 n_7, AV.int IntKind.i64 n_8]) ∧
 (decide (n_8 ≤ (0 : Int)) = true →
 ∃ (y : K9),
 ValsAre
 [AV.ptr ((1 : Nat)) ((0 : Nat)), AV.ptr ((2 : Nat)) ((0 : Nat)),
 AV.ptr ((3 : Nat)) ((0 : Nat)), AV.bool false, AV.sl ((6 : Nat)) (cesL l) Own.no,
 AV.int IntKind.i64 (↑l.length : Int), AV.int IntKind.i64 (↑x_1.i : Int),
 AV.sl ((6 : Nat)) (itsL x_1.c.st.its) Own.no,
 AV.int IntKind.i64 (↑x_1.c.st.its.length : Int),
 AV.int IntKind.i64 (IntKind.i64.wrap ((↑x_1.j : Int) + (1 : Int)))]
 [AV.ptr ((1 : Nat)) ((0 : Nat)), AV.ptr ((2 : Nat)) ((0 : Nat)),
 AV.ptr ((3 : Nat)) ((0 : Nat)), AV.bool y.b.f, AV.sl ((6 : Nat)) (cesL l) Own.no,
 AV.int IntKind.i64 (↑l.length : Int), AV.int IntKind.i64 (↑y.i : Int),
 AV.sl ((6 : Nat)) (itsL y.c.st.its) Own.no,
 AV.int IntKind.i64 (↑y.c.st.its.length : Int), AV.int IntKind.i64 (↑y.j : Int)] ∧
 StIs
 { boxes := [some [AV.tup [AV.int IntKind.i64 (106 : Int), AV.agg [AV.bool f]]], some [AV.str op, AV.int IntKind.i64 param, AV.int IntKind.i64 kind, AV.int IntKind.i64 t, AV.int IntKind.i64 n, AV.sl ((6 : Nat)) (cesL l) Own.no], some [AV.int IntKind.i64 (0 : Int), AV.int IntKind.i64 (0 : Int), AV.str []], some [AV.int IntKind.i64 x_1.b.k, AV.int IntKind.i64 x_1.b.n, AV.str x_1.b.s], some [AV.int IntKind.i64 x_1.c.ev, AV.int IntKind.i64 x_1.c.st.n, AV.int IntKind.i64 x_1.c.st.h, AV.int IntKind.u64 x_1.c.st.l, AV.sl ((6 : Nat)) (itsL x_1.c.st.its) Own.no, AV.sl ((2 : Nat)) (bksL x_1.c.st.bks) Own.no]], live := [] }
 { boxes := [some [AV.tup [AV.int IntKind.i64 (106 : Int), AV.agg [AV.bool f]]], some [AV.str op, AV.int IntKind.i64 param, AV.int IntKind.i64 kind, AV.int IntKind.i64 t, AV.int IntKind.i64 n, AV.sl ((6 : Nat)) (cesL l) Own.no], some [AV.int IntKind.i64 (0 : Int), AV.int IntKind.i64 (0 : Int), AV.str []], some [AV.int IntKind.i64 y.b.k, AV.int IntKind.i64 y.b.n, AV.str y.b.s], some [AV.int IntKind.i64 y.c.ev, AV.int IntKind.i64 y.c.st.n, AV.int IntKind.i64 y.c.st.h, AV.int IntKind.u64 y.c.st.l, AV.sl ((6 : Nat)) (itsL y.c.st.its) Own.no, AV.sl ((2 : Nat)) (bksL y.c.st.bks) Own.no]], live := [] } ∧
 (l[y.i]? = some y.c ∧
 y.j ≤ y.c.st.its.length ∧
 bestP op (itsOf (List.take y.i l) ++ List.take y.j y.c.st.its) = y.b) ∧
 some (AV.int IntKind.i64 (↑x.fst : Int)) =
 some (AV.int IntKind.i64 (↑y.i : Int)) ∧
 y.c.st.its.length - y.j < x_1.c.st.its.length - x_1.j) ∧
 (decide (n_8 ≤ (0 : Int)) = false →
 ∃ (n_9 : Int),
 CallIs (some (AV.int IntKind.i64 (cmpV n_5 n_6 s x_1.b.k x_1.b.n x_1.b.s), []))
 (AV.int IntKind.i64 n_9) [] ∧
 ∃ (y : K9),
 ValsAre
 [AV.ptr ((1 : Nat)) ((0 : Nat)), AV.ptr ((2 : Nat)) ((0 : Nat)),
 AV.ptr ((3 : Nat)) ((0 : Nat)), AV.bool true,
 AV.sl ((6 : Nat)) (cesL l) Own.no, AV.int IntKind.i64 (↑l.length : Int),
 AV.int IntKind.i64 (↑x_1.i : Int),
 AV.sl ((6 : Nat)) (itsL x_1.c.st.its) Own.no,
 AV.int IntKind.i64 (↑x_1.c.st.its.length : Int),
 AV.int IntKind.i64 (IntKind.i64.wrap ((↑x_1.j : Int) + (1 : Int)))]
 [AV.ptr ((1 : Nat)) ((0 : Nat)), AV.ptr ((2 : Nat)) ((0 : Nat)),
 AV.ptr ((3 : Nat)) ((0 : Nat)), AV.bool y.b.f,
 AV.sl ((6 : Nat)) (cesL l) Own.no, AV.int IntKind.i64 (↑l.length : Int),
 AV.int IntKind.i64 (↑y.i : Int), AV.sl ((6 : Nat)) (itsL y.c.st.its) Own.no,
 AV.int IntKind.i64 (↑y.c.st.its.length : Int),
 AV.int IntKind.i64 (↑y.j : Int)] ∧
 StIs
 { boxes := [some [AV.tup [AV.int IntKind.i64 (106 : Int), AV.agg [AV.bool f]]], some [AV.str op, AV.int IntKind.i64 param, AV.int IntKind.i64 kind, AV.int IntKind.i64 t, AV.int IntKind.i64 n, AV.sl ((6 : Nat)) (cesL l) Own.no], some [AV.int IntKind.i64 (0 : Int), AV.int IntKind.i64 (0 : Int), AV.str []], some [AV.int IntKind.i64 n_5, AV.int IntKind.i64 n_6, AV.str s], some [AV.int IntKind.i64 x_1.c.ev, AV.int IntKind.i64 x_1.c.st.n, AV.int IntKind.i64 x_1.c.st.h, AV.int IntKind.u64 x_1.c.st.l, AV.sl ((6 : Nat)) (itsL x_1.c.st.its) Own.no, AV.sl ((2 : Nat)) (bksL x_1.c.st.bks) Own.no]], live := [] }
 { boxes := [some [AV.tup [AV.int IntKind.i64 (106 : Int), AV.agg [AV.bool f]]], some [AV.str op, AV.int IntKind.i64 param, AV.int IntKind.i64 kind, AV.int IntKind.i64 t, AV.int IntKind.i64 n, AV.sl ((6 : Nat)) (cesL l) Own.no], some [AV.int IntKind.i64 (0 : Int), AV.int IntKind.i64 (0 : Int), AV.str []], some [AV.int IntKind.i64 y.b.k, AV.int IntKind.i64 y.b.n, AV.str y.b.s], some [AV.int IntKind.i64 y.c.ev, AV.int IntKind.i64 y.c.st.n, AV.int IntKind.i64 y.c.st.h, AV.int IntKind.u64 y.c.st.l, AV.sl ((6 : Nat)) (itsL y.c.st.its) Own.no, AV.sl ((2 : Nat)) (bksL y.c.st.bks) Own.no]], live := [] } ∧
 (l[y.i]? = some y.c ∧
 y.j ≤ y.c.st.its.length ∧
 bestP op (itsOf (List.take y.i l) ++ List.take y.j y.c.st.its) = y.b) ∧
 some (AV.int IntKind.i64 (↑x.fst : Int)) =
 some (AV.int IntKind.i64 (↑y.i : Int)) ∧
 y.c.st.its.length - y.j < x_1.c.st.its.length - x_1.j)) ∧
 (decide ((↑x_1.j : Int) < (↑x_1.c.st.its.length : Int)) = false →
 ∃ (y : Nat × Bst),
 ValsAre
 [AV.ptr ((1 : Nat)) ((0 : Nat)), AV.ptr ((2 : Nat)) ((0 : Nat)), AV.ptr ((3 : Nat)) ((0 : Nat)),
 AV.bool false, AV.sl ((6 : Nat)) (cesL l) Own.no, AV.int IntKind.i64 (↑l.length : Int),
 AV.int IntKind.i64 (IntKind.i64.wrap ((↑x_1.i : Int) + (1 : Int)))]
 [AV.ptr ((1 : Nat)) ((0 : Nat)), AV.ptr ((2 : Nat)) ((0 : Nat)), AV.ptr ((3 : Nat)) ((0 : Nat)),
 AV.bool y.snd.f, AV.sl ((6 : Nat)) (cesL l) Own.no, AV.int IntKind.i64 (↑l.length : Int),
 AV.int IntKind.i64 (↑y.fst : Int)] ∧
 StIs
 { boxes := [some [AV.tup [AV.int IntKind.i64 (106 : Int), AV.agg [AV.bool f]]], some [AV.str op, AV.int IntKind.i64 param, AV.int IntKind.i64 kind, AV.int IntKind.i64 t, AV.int IntKind.i64 n, AV.sl ((6 : Nat)) (cesL l) Own.no], some [AV.int IntKind.i64 (0 : Int), AV.int IntKind.i64 (0 : Int), AV.str []], some [AV.int IntKind.i64 x_1.b.k, AV.int IntKind.i64 x_1.b.n, AV.str x_1.b.s]], live := [] }
 { boxes := [some [AV.tup [AV.int IntKind.i64 (106 : Int), AV.agg [AV.bool f]]], some [AV.str op, AV.int IntKind.i64 param, AV.int IntKind.i64 kind, AV.int IntKind.i64 t, AV.int IntKind.i64 n, AV.sl ((6 : Nat)) (cesL l) Own.no], some [AV.int IntKind.i64 (0 : Int), AV.int IntKind.i64 (0 : Int), AV.str []], some [AV.int IntKind.i64 y.snd.k, AV.int IntKind.i64 y.snd.n, AV.str y.snd.s]], live := [] } ∧
 (y.fst ≤ l.length ∧ bestP op (itsOf (List.take y.fst l)) = y.snd) ∧
 l.length - y.fst < l.length - x.fst))) ∧
 (decide ((↑x.fst : Int) < (↑l.length : Int)) = false →
 RetIs (AV.agg [AV.int IntKind.i64 x.snd.k, AV.int IntKind.i64 x.snd.n, AV.str x.snd.s]) [] (r, []))) ∧
 (x.snd.f = false →
 (decide ((↑x.fst : Int) < (↑l.length : Int)) = true →
 ((0 : Int) ≤ (↑x.fst : Int) ∧ (↑x.fst : Int) < (↑(cesL l).length : Int)) ∧
 ∃ (n_1 : Int),
 ∃ (n_2 : Int),
 ∃ (n_3 : Int),
 ∃ (n_4 : Int),
 ∃ (es : List AV),
 ∃ (es_1 : List AV),
 takeAt PA ((42 : Nat)) (cesL l) (↑x.fst : Int).toNat ((0 : Nat)) =
 some
 (AV.agg
 [AV.int IntKind.i64 n_1, AV.int IntKind.i64 n_2, AV.int IntKind.i64 n_3, AV.int IntKind.u64 n_4,
 AV.sl ((6 : Nat)) es Own.no, AV.sl ((2 : Nat)) es_1 Own.no]) ∧
 (∃ (y : K9),
 ValsAre
 [AV.ptr ((1 : Nat)) ((0 : Nat)), AV.ptr ((2 : Nat)) ((0 : Nat)), AV.ptr ((3 : Nat)) ((0 : Nat)), AV.bool false,
 AV.sl ((6 : Nat)) (cesL l) Own.no, AV.int IntKind.i64 (↑l.length : Int), AV.int IntKind.i64 (↑x.fst : Int),
 AV.sl ((6 : Nat)) es Own.no, AV.int IntKind.i64 (↑es.length : Int), AV.int IntKind.i64 (0 : Int)]
 [AV.ptr ((1 : Nat)) ((0 : Nat)), AV.ptr ((2 : Nat)) ((0 : Nat)), AV.ptr ((3 : Nat)) ((0 : Nat)), AV.bool y.b.f,
 AV.sl ((6 : Nat)) (cesL l) Own.no, AV.int IntKind.i64 (↑l.length : Int), AV.int IntKind.i64 (↑y.i : Int),
 AV.sl ((6 : Nat)) (itsL y.c.st.its) Own.no, AV.int IntKind.i64 (↑y.c.st.its.length : Int),
 AV.int IntKind.i64 (↑y.j : Int)] ∧
 StIs
 { boxes := [some [AV.tup [AV.int IntKind.i64 (106 : Int), AV.agg [AV.bool f]]], some [AV.str op, AV.int IntKind.i64 param, AV.int IntKind.i64 kind, AV.int IntKind.i64 t, AV.int IntKind.i64 n, AV.sl ((6 : Nat)) (cesL l) Own.no], some [AV.int IntKind.i64 (0 : Int), AV.int IntKind.i64 (0 : Int), AV.str []], some [AV.int IntKind.i64 x.snd.k, AV.int IntKind.i64 x.snd.n, AV.str x.snd.s], some [AV.int IntKind.i64 n_1, AV.int IntKind.i64 n_2, AV.int IntKind.i64 n_3, AV.int IntKind.u64 n_4, AV.sl ((6 : Nat)) es Own.no, AV.sl ((2 : Nat)) es_1 Own.no]], live := [] }
 { boxes := [some [AV.tup [AV.int IntKind.i64 (106 : Int), AV.agg [AV.bool f]]], some [AV.str op, AV.int IntKind.i64 param, AV.int IntKind.i64 kind, AV.int IntKind.i64 t, AV.int IntKind.i64 n, AV.sl ((6 : Nat)) (cesL l) Own.no], some [AV.int IntKind.i64 (0 : Int), AV.int IntKind.i64 (0 : Int), AV.str []], some [AV.int IntKind.i64 y.b.k, AV.int IntKind.i64 y.b.n, AV.str y.b.s], some [AV.int IntKind.i64 y.c.ev, AV.int IntKind.i64 y.c.st.n, AV.int IntKind.i64 y.c.st.h, AV.int IntKind.u64 y.c.st.l, AV.sl ((6 : Nat)) (itsL y.c.st.its) Own.no, AV.sl ((2 : Nat)) (bksL y.c.st.bks) Own.no]], live := [] } ∧
 (l[y.i]? = some y.c ∧
 y.j ≤ y.c.st.its.length ∧ bestP op (itsOf (List.take y.i l) ++ List.take y.j y.c.st.its) = y.b) ∧
 some (AV.int IntKind.i64 (↑x.fst : Int)) = some (AV.int IntKind.i64 (↑y.i : Int))) ∧
 ∀ (x_1 : K9),
 l[x_1.i]? = some x_1.c ∧
 x_1.j ≤ x_1.c.st.its.length ∧ bestP op (itsOf (List.take x_1.i l) ++ List.take x_1.j x_1.c.st.its) = x_1.b →
 some (AV.int IntKind.i64 (↑x.fst : Int)) = some (AV.int IntKind.i64 (↑x_1.i : Int)) →
 (x_1.b.f = true →
 (decide ((↑x_1.j : Int) < (↑x_1.c.st.its.length : Int)) = true →
 ((0 : Int) ≤ (↑x_1.j : Int) ∧ (↑x_1.j : Int) < (↑(itsL x_1.c.st.its).length : Int)) ∧
 ∃ (n_5 : Int),
 ∃ (n_6 : Int),
 ∃ (s : List UInt8),
 ∃ (s_1 : List UInt8),
 ∃ (n_7 : Int),
 ∃ (n_8 : Int),
 takeAt PA ((51 : Nat)) (itsL x_1.c.st.its) (↑x_1.j : Int).toNat ((0 : Nat)) =
 some
 (AV.agg
 [AV.int IntKind.i64 n_5, AV.int IntKind.i64 n_6, AV.str s, AV.str s_1,
 AV.int IntKind.i64 n_7, AV.int IntKind.i64 n_8]) ∧
 (decide (n_8 ≤ (0 : Int)) = true →
 ∃ (y : K9),
 ValsAre
 [AV.ptr ((1 : Nat)) ((0 : Nat)), AV.ptr ((2 : Nat)) ((0 : Nat)),
 AV.ptr ((3 : Nat)) ((0 : Nat)), AV.bool true, AV.sl ((6 : Nat)) (cesL l) Own.no,
 AV.int IntKind.i64 (↑l.length : Int), AV.int IntKind.i64 (↑x_1.i : Int),
 AV.sl ((6 : Nat)) (itsL x_1.c.st.its) Own.no,
 AV.int IntKind.i64 (↑x_1.c.st.its.length : Int),
 AV.int IntKind.i64 (IntKind.i64.wrap ((↑x_1.j : Int) + (1 : Int)))]
 [AV.ptr ((1 : Nat)) ((0 : Nat)), AV.ptr ((2 : Nat)) ((0 : Nat)),
 AV.ptr ((3 : Nat)) ((0 : Nat)), AV.bool y.b.f, AV.sl ((6 : Nat)) (cesL l) Own.no,
 AV.int IntKind.i64 (↑l.length : Int), AV.int IntKind.i64 (↑y.i : Int),
 AV.sl ((6 : Nat)) (itsL y.c.st.its) Own.no,
 AV.int IntKind.i64 (↑y.c.st.its.length : Int), AV.int IntKind.i64 (↑y.j : Int)] ∧
 StIs
 { boxes := [some [AV.tup [AV.int IntKind.i64 (106 : Int), AV.agg [AV.bool f]]], some [AV.str op, AV.int IntKind.i64 param, AV.int IntKind.i64 kind, AV.int IntKind.i64 t, AV.int IntKind.i64 n, AV.sl ((6 : Nat)) (cesL l) Own.no], some [AV.int IntKind.i64 (0 : Int), AV.int IntKind.i64 (0 : Int), AV.str []], some [AV.int IntKind.i64 x_1.b.k, AV.int IntKind.i64 x_1.b.n, AV.str x_1.b.s], some [AV.int IntKind.i64 x_1.c.ev, AV.int IntKind.i64 x_1.c.st.n, AV.int IntKind.i64 x_1.c.st.h, AV.int IntKind.u64 x_1.c.st.l, AV.sl ((6 : Nat)) (itsL x_1.c.st.its) Own.no, AV.sl ((2 : Nat)) (bksL x_1.c.st.bks) Own.no]], live := [] }
 { boxes := [some [AV.tup [AV.int IntKind.i64 (106 : Int), AV.agg [AV.bool f]]], some [AV.str op, AV.int IntKind.i64 param, AV.int IntKind.i64 kind, AV.int IntKind.i64 t, AV.int IntKind.i64 n, AV.sl ((6 : Nat)) (cesL l) Own.no], some [AV.int IntKind.i64 (0 : Int), AV.int IntKind.i64 (0 : Int), AV.str []], some [AV.int IntKind.i64 y.b.k, AV.int IntKind.i64 y.b.n, AV.str y.b.s], some [AV.int IntKind.i64 y.c.ev, AV.int IntKind.i64 y.c.st.n, AV.int IntKind.i64 y.c.st.h, AV.int IntKind.u64 y.c.st.l, AV.sl ((6 : Nat)) (itsL y.c.st.its) Own.no, AV.sl ((2 : Nat)) (bksL y.c.st.bks) Own.no]], live := [] } ∧
 (l[y.i]? = some y.c ∧
 y.j ≤ y.c.st.its.length ∧
 bestP op (itsOf (List.take y.i l) ++ List.take y.j y.c.st.its) = y.b) ∧
 some (AV.int IntKind.i64 (↑x.fst : Int)) =
 some (AV.int IntKind.i64 (↑y.i : Int)) ∧
 y.c.st.its.length - y.j < x_1.c.st.its.length - x_1.j) ∧
 (decide (n_8 ≤ (0 : Int)) = false →
 ∃ (n_9 : Int),
 CallIs (some (AV.int IntKind.i64 (cmpV n_5 n_6 s x_1.b.k x_1.b.n x_1.b.s), []))
 (AV.int IntKind.i64 n_9) [] ∧
 ((op == [(108 : UInt8), (97 : UInt8), (115 : UInt8), (116 : UInt8)]) = true →
 ∃ (y : K9),
 ValsAre
 [AV.ptr ((1 : Nat)) ((0 : Nat)), AV.ptr ((2 : Nat)) ((0 : Nat)),
 AV.ptr ((3 : Nat)) ((0 : Nat)), AV.bool true,
 AV.sl ((6 : Nat)) (cesL l) Own.no, AV.int IntKind.i64 (↑l.length : Int),
 AV.int IntKind.i64 (↑x_1.i : Int),
 AV.sl ((6 : Nat)) (itsL x_1.c.st.its) Own.no,
 AV.int IntKind.i64 (↑x_1.c.st.its.length : Int),
 AV.int IntKind.i64 (IntKind.i64.wrap ((↑x_1.j : Int) + (1 : Int)))]
 [AV.ptr ((1 : Nat)) ((0 : Nat)), AV.ptr ((2 : Nat)) ((0 : Nat)),
 AV.ptr ((3 : Nat)) ((0 : Nat)), AV.bool y.b.f,
 AV.sl ((6 : Nat)) (cesL l) Own.no, AV.int IntKind.i64 (↑l.length : Int),
 AV.int IntKind.i64 (↑y.i : Int),
 AV.sl ((6 : Nat)) (itsL y.c.st.its) Own.no,
 AV.int IntKind.i64 (↑y.c.st.its.length : Int),
 AV.int IntKind.i64 (↑y.j : Int)] ∧
 StIs
 { boxes := [some [AV.tup [AV.int IntKind.i64 (106 : Int), AV.agg [AV.bool f]]], some [AV.str op, AV.int IntKind.i64 param, AV.int IntKind.i64 kind, AV.int IntKind.i64 t, AV.int IntKind.i64 n, AV.sl ((6 : Nat)) (cesL l) Own.no], some [AV.int IntKind.i64 (0 : Int), AV.int IntKind.i64 (0 : Int), AV.str []], some [AV.int IntKind.i64 n_5, AV.int IntKind.i64 n_6, AV.str s], some [AV.int IntKind.i64 x_1.c.ev, AV.int IntKind.i64 x_1.c.st.n, AV.int IntKind.i64 x_1.c.st.h, AV.int IntKind.u64 x_1.c.st.l, AV.sl ((6 : Nat)) (itsL x_1.c.st.its) Own.no, AV.sl ((2 : Nat)) (bksL x_1.c.st.bks) Own.no]], live := [] }
 { boxes := [some [AV.tup [AV.int IntKind.i64 (106 : Int), AV.agg [AV.bool f]]], some [AV.str op, AV.int IntKind.i64 param, AV.int IntKind.i64 kind, AV.int IntKind.i64 t, AV.int IntKind.i64 n, AV.sl ((6 : Nat)) (cesL l) Own.no], some [AV.int IntKind.i64 (0 : Int), AV.int IntKind.i64 (0 : Int), AV.str []], some [AV.int IntKind.i64 y.b.k, AV.int IntKind.i64 y.b.n, AV.str y.b.s], some [AV.int IntKind.i64 y.c.ev, AV.int IntKind.i64 y.c.st.n, AV.int IntKind.i64 y.c.st.h, AV.int IntKind.u64 y.c.st.l, AV.sl ((6 : Nat)) (itsL y.c.st.its) Own.no, AV.sl ((2 : Nat)) (bksL y.c.st.bks) Own.no]], live := [] } ∧
 (l[y.i]? = some y.c ∧
 y.j ≤ y.c.st.its.length ∧
 bestP op (itsOf (List.take y.i l) ++ List.take y.j y.c.st.its) =
 y.b) ∧
 some (AV.int IntKind.i64 (↑x.fst : Int)) =
 some (AV.int IntKind.i64 (↑y.i : Int)) ∧
 y.c.st.its.length - y.j < x_1.c.st.its.length - x_1.j) ∧
 ((op == [(108 : UInt8), (97 : UInt8), (115 : UInt8), (116 : UInt8)]) = false →
 ((op == [(109 : UInt8), (105 : UInt8), (110 : UInt8)]) = true →
 (decide (n_9 < (0 : Int)) = true →
 ∃ (y : K9),
 ValsAre
 [AV.ptr ((1 : Nat)) ((0 : Nat)), AV.ptr ((2 : Nat)) ((0 : Nat)),
 AV.ptr ((3 : Nat)) ((0 : Nat)), AV.bool true,
 AV.sl ((6 : Nat)) (cesL l) Own.no,
 AV.int IntKind.i64 (↑l.length : Int),
 AV.int IntKind.i64 (↑x_1.i : Int),
 AV.sl ((6 : Nat)) (itsL x_1.c.st.its) Own.no,
 AV.int IntKind.i64 (↑x_1.c.st.its.length : Int),
 AV.int IntKind.i64
 (IntKind.i64.wrap ((↑x_1.j : Int) + (1 : Int)))]
 [AV.ptr ((1 : Nat)) ((0 : Nat)), AV.ptr ((2 : Nat)) ((0 : Nat)),
 AV.ptr ((3 : Nat)) ((0 : Nat)), AV.bool y.b.f,
 AV.sl ((6 : Nat)) (cesL l) Own.no,
 AV.int IntKind.i64 (↑l.length : Int),
 AV.int IntKind.i64 (↑y.i : Int),
 AV.sl ((6 : Nat)) (itsL y.c.st.its) Own.no,
 AV.int IntKind.i64 (↑y.c.st.its.length : Int),
 AV.int IntKind.i64 (↑y.j : Int)] ∧
 StIs
 { boxes := [some [AV.tup [AV.int IntKind.i64 (106 : Int), AV.agg [AV.bool f]]], some [AV.str op, AV.int IntKind.i64 param, AV.int IntKind.i64 kind, AV.int IntKind.i64 t, AV.int IntKind.i64 n, AV.sl ((6 : Nat)) (cesL l) Own.no], some [AV.int IntKind.i64 (0 : Int), AV.int IntKind.i64 (0 : Int), AV.str []], some [AV.int IntKind.i64 n_5, AV.int IntKind.i64 n_6, AV.str s], some [AV.int IntKind.i64 x_1.c.ev, AV.int IntKind.i64 x_1.c.st.n, AV.int IntKind.i64 x_1.c.st.h, AV.int IntKind.u64 x_1.c.st.l, AV.sl ((6 : Nat)) (itsL x_1.c.st.its) Own.no, AV.sl ((2 : Nat)) (bksL x_1.c.st.bks) Own.no]], live := [] }
 { boxes := [some [AV.tup [AV.int IntKind.i64 (106 : Int), AV.agg [AV.bool f]]], some [AV.str op, AV.int IntKind.i64 param, AV.int IntKind.i64 kind, AV.int IntKind.i64 t, AV.int IntKind.i64 n, AV.sl ((6 : Nat)) (cesL l) Own.no], some [AV.int IntKind.i64 (0 : Int), AV.int IntKind.i64 (0 : Int), AV.str []], some [AV.int IntKind.i64 y.b.k, AV.int IntKind.i64 y.b.n, AV.str y.b.s], some [AV.int IntKind.i64 y.c.ev, AV.int IntKind.i64 y.c.st.n, AV.int IntKind.i64 y.c.st.h, AV.int IntKind.u64 y.c.st.l, AV.sl ((6 : Nat)) (itsL y.c.st.its) Own.no, AV.sl ((2 : Nat)) (bksL y.c.st.bks) Own.no]], live := [] } ∧
 (l[y.i]? = some y.c ∧
 y.j ≤ y.c.st.its.length ∧
 bestP op
 (itsOf (List.take y.i l) ++ List.take y.j y.c.st.its) =
 y.b) ∧
 some (AV.int IntKind.i64 (↑x.fst : Int)) =
 some (AV.int IntKind.i64 (↑y.i : Int)) ∧
 y.c.st.its.length - y.j < x_1.c.st.its.length - x_1.j) ∧
 (decide (n_9 < (0 : Int)) = false →
 ((op == [(109 : UInt8), (97 : UInt8), (120 : UInt8)]) = true →
 (decide (n_9 > (0 : Int)) = true →
 ∃ (y : K9),
 ValsAre
 [AV.ptr ((1 : Nat)) ((0 : Nat)),
 AV.ptr ((2 : Nat)) ((0 : Nat)),
 AV.ptr ((3 : Nat)) ((0 : Nat)), AV.bool true,
 AV.sl ((6 : Nat)) (cesL l) Own.no,
 AV.int IntKind.i64 (↑l.length : Int),
 AV.int IntKind.i64 (↑x_1.i : Int),
 AV.sl ((6 : Nat)) (itsL x_1.c.st.its) Own.no,
 AV.int IntKind.i64 (↑x_1.c.st.its.length : Int),
 AV.int IntKind.i64
 (IntKind.i64.wrap ((↑x_1.j : Int) + (1 : Int)))]
 [AV.ptr ((1 : Nat)) ((0 : Nat)),
 AV.ptr ((2 : Nat)) ((0 : Nat)),
 AV.ptr ((3 : Nat)) ((0 : Nat)), AV.bool y.b.f,
 AV.sl ((6 : Nat)) (cesL l) Own.no,
 AV.int IntKind.i64 (↑l.length : Int),
 AV.int IntKind.i64 (↑y.i : Int),
 AV.sl ((6 : Nat)) (itsL y.c.st.its) Own.no,
 AV.int IntKind.i64 (↑y.c.st.its.length : Int),
 AV.int IntKind.i64 (↑y.j : Int)] ∧
 StIs
 { boxes := [some [AV.tup [AV.int IntKind.i64 (106 : Int), AV.agg [AV.bool f]]], some [AV.str op, AV.int IntKind.i64 param, AV.int IntKind.i64 kind, AV.int IntKind.i64 t, AV.int IntKind.i64 n, AV.sl ((6 : Nat)) (cesL l) Own.no], some [AV.int IntKind.i64 (0 : Int), AV.int IntKind.i64 (0 : Int), AV.str []], some [AV.int IntKind.i64 n_5, AV.int IntKind.i64 n_6, AV.str s], some [AV.int IntKind.i64 x_1.c.ev, AV.int IntKind.i64 x_1.c.st.n, AV.int IntKind.i64 x_1.c.st.h, AV.int IntKind.u64 x_1.c.st.l, AV.sl ((6 : Nat)) (itsL x_1.c.st.its) Own.no, AV.sl ((2 : Nat)) (bksL x_1.c.st.bks) Own.no]], live := [] }
 { boxes := [some [AV.tup [AV.int IntKind.i64 (106 : Int), AV.agg [AV.bool f]]], some [AV.str op, AV.int IntKind.i64 param, AV.int IntKind.i64 kind, AV.int IntKind.i64 t, AV.int IntKind.i64 n, AV.sl ((6 : Nat)) (cesL l) Own.no], some [AV.int IntKind.i64 (0 : Int), AV.int IntKind.i64 (0 : Int), AV.str []], some [AV.int IntKind.i64 y.b.k, AV.int IntKind.i64 y.b.n, AV.str y.b.s], some [AV.int IntKind.i64 y.c.ev, AV.int IntKind.i64 y.c.st.n, AV.int IntKind.i64 y.c.st.h, AV.int IntKind.u64 y.c.st.l, AV.sl ((6 : Nat)) (itsL y.c.st.its) Own.no, AV.sl ((2 : Nat)) (bksL y.c.st.bks) Own.no]], live := [] } ∧
 (l[y.i]? = some y.c ∧
 y.j ≤ y.c.st.its.length ∧
 bestP op
 (itsOf (List.take y.i l) ++
 List.take y.j y.c.st.its) =
 y.b) ∧
 some (AV.int IntKind.i64 (↑x.fst : Int)) =
 some (AV.int IntKind.i64 (↑y.i : Int)) ∧
 y.c.st.its.length - y.j < x_1.c.st.its.length - x_1.j) ∧
 (decide (n_9 > (0 : Int)) = false →
 ∃ (y : K9),
 ValsAre
 [AV.ptr ((1 : Nat)) ((0 : Nat)),
 AV.ptr ((2 : Nat)) ((0 : Nat)),
 AV.ptr ((3 : Nat)) ((0 : Nat)), AV.bool true,
 AV.sl ((6 : Nat)) (cesL l) Own.no,
 AV.int IntKind.i64 (↑l.length : Int),
 AV.int IntKind.i64 (↑x_1.i : Int),
 AV.sl ((6 : Nat)) (itsL x_1.c.st.its) Own.no,
 AV.int IntKind.i64 (↑x_1.c.st.its.length : Int),
 AV.int IntKind.i64
 (IntKind.i64.wrap ((↑x_1.j : Int) + (1 : Int)))]
 [AV.ptr ((1 : Nat)) ((0 : Nat)),
 AV.ptr ((2 : Nat)) ((0 : Nat)),
 AV.ptr ((3 : Nat)) ((0 : Nat)), AV.bool y.b.f,
 AV.sl ((6 : Nat)) (cesL l) Own.no,
 AV.int IntKind.i64 (↑l.length : Int),
 AV.int IntKind.i64 (↑y.i : Int),
 AV.sl ((6 : Nat)) (itsL y.c.st.its) Own.no,
 AV.int IntKind.i64 (↑y.c.st.its.length : Int),
 AV.int IntKind.i64 (↑y.j : Int)] ∧
 StIs
 { boxes := [some [AV.tup [AV.int IntKind.i64 (106 : Int), AV.agg [AV.bool f]]], some [AV.str op, AV.int IntKind.i64 param, AV.int IntKind.i64 kind, AV.int IntKind.i64 t, AV.int IntKind.i64 n, AV.sl ((6 : Nat)) (cesL l) Own.no], some [AV.int IntKind.i64 (0 : Int), AV.int IntKind.i64 (0 : Int), AV.str []], some [AV.int IntKind.i64 x_1.b.k, AV.int IntKind.i64 x_1.b.n, AV.str x_1.b.s], some [AV.int IntKind.i64 x_1.c.ev, AV.int IntKind.i64 x_1.c.st.n, AV.int IntKind.i64 x_1.c.st.h, AV.int IntKind.u64 x_1.c.st.l, AV.sl ((6 : Nat)) (itsL x_1.c.st.its) Own.no, AV.sl ((2 : Nat)) (bksL x_1.c.st.bks) Own.no]], live := [] }
 { boxes := [some [AV.tup [AV.int IntKind.i64 (106 : Int), AV.agg [AV.bool f]]], some [AV.str op, AV.int IntKind.i64 param, AV.int IntKind.i64 kind, AV.int IntKind.i64 t, AV.int IntKind.i64 n, AV.sl ((6 : Nat)) (cesL l) Own.no], some [AV.int IntKind.i64 (0 : Int), AV.int IntKind.i64 (0 : Int), AV.str []], some [AV.int IntKind.i64 y.b.k, AV.int IntKind.i64 y.b.n, AV.str y.b.s], some [AV.int IntKind.i64 y.c.ev, AV.int IntKind.i64 y.c.st.n, AV.int IntKind.i64 y.c.st.h, AV.int IntKind.u64 y.c.st.l, AV.sl ((6 : Nat)) (itsL y.c.st.its) Own.no, AV.sl ((2 : Nat)) (bksL y.c.st.bks) Own.no]], live := [] } ∧
 (l[y.i]? = some y.c ∧
 y.j ≤ y.c.st.its.length ∧
 bestP op
 (itsOf (List.take y.i l) ++
 List.take y.j y.c.st.its) =
 y.b) ∧
 some (AV.int IntKind.i64 (↑x.fst : Int)) =
 some (AV.int IntKind.i64 (↑y.i : Int)) ∧
 y.c.st.its.length - y.j <
 x_1.c.st.its.length - x_1.j)) ∧
 ((op == [(109 : UInt8), (97 : UInt8), (120 : UInt8)]) = false →
 ∃ (y : K9),
 ValsAre
 [AV.ptr ((1 : Nat)) ((0 : Nat)), AV.ptr ((2 : Nat)) ((0 : Nat)),
 AV.ptr ((3 : Nat)) ((0 : Nat)), AV.bool true,
 AV.sl ((6 : Nat)) (cesL l) Own.no,
 AV.int IntKind.i64 (↑l.length : Int),
 AV.int IntKind.i64 (↑x_1.i : Int),
 AV.sl ((6 : Nat)) (itsL x_1.c.st.its) Own.no,
 AV.int IntKind.i64 (↑x_1.c.st.its.length : Int),
 AV.int IntKind.i64
 (IntKind.i64.wrap ((↑x_1.j : Int) + (1 : Int)))]
 [AV.ptr ((1 : Nat)) ((0 : Nat)), AV.ptr ((2 : Nat)) ((0 : Nat)),
 AV.ptr ((3 : Nat)) ((0 : Nat)), AV.bool y.b.f,
 AV.sl ((6 : Nat)) (cesL l) Own.no,
 AV.int IntKind.i64 (↑l.length : Int),
 AV.int IntKind.i64 (↑y.i : Int),
 AV.sl ((6 : Nat)) (itsL y.c.st.its) Own.no,
 AV.int IntKind.i64 (↑y.c.st.its.length : Int),
 AV.int IntKind.i64 (↑y.j : Int)] ∧
 StIs
 { boxes := [some [AV.tup [AV.int IntKind.i64 (106 : Int), AV.agg [AV.bool f]]], some [AV.str op, AV.int IntKind.i64 param, AV.int IntKind.i64 kind, AV.int IntKind.i64 t, AV.int IntKind.i64 n, AV.sl ((6 : Nat)) (cesL l) Own.no], some [AV.int IntKind.i64 (0 : Int), AV.int IntKind.i64 (0 : Int), AV.str []], some [AV.int IntKind.i64 x_1.b.k, AV.int IntKind.i64 x_1.b.n, AV.str x_1.b.s], some [AV.int IntKind.i64 x_1.c.ev, AV.int IntKind.i64 x_1.c.st.n, AV.int IntKind.i64 x_1.c.st.h, AV.int IntKind.u64 x_1.c.st.l, AV.sl ((6 : Nat)) (itsL x_1.c.st.its) Own.no, AV.sl ((2 : Nat)) (bksL x_1.c.st.bks) Own.no]], live := [] }
 { boxes := [some [AV.tup [AV.int IntKind.i64 (106 : Int), AV.agg [AV.bool f]]], some [AV.str op, AV.int IntKind.i64 param, AV.int IntKind.i64 kind, AV.int IntKind.i64 t, AV.int IntKind.i64 n, AV.sl ((6 : Nat)) (cesL l) Own.no], some [AV.int IntKind.i64 (0 : Int), AV.int IntKind.i64 (0 : Int), AV.str []], some [AV.int IntKind.i64 y.b.k, AV.int IntKind.i64 y.b.n, AV.str y.b.s], some [AV.int IntKind.i64 y.c.ev, AV.int IntKind.i64 y.c.st.n, AV.int IntKind.i64 y.c.st.h, AV.int IntKind.u64 y.c.st.l, AV.sl ((6 : Nat)) (itsL y.c.st.its) Own.no, AV.sl ((2 : Nat)) (bksL y.c.st.bks) Own.no]], live := [] } ∧
 (l[y.i]? = some y.c ∧
 y.j ≤ y.c.st.its.length ∧
 bestP op
 (itsOf (List.take y.i l) ++
 List.take y.j y.c.st.its) =
 y.b) ∧
 some (AV.int IntKind.i64 (↑x.fst : Int)) =
 some (AV.int IntKind.i64 (↑y.i : Int)) ∧
 y.c.st.its.length - y.j < x_1.c.st.its.length - x_1.j))) ∧
 ((op == [(109 : UInt8), (105 : UInt8), (110 : UInt8)]) = false →
 ((op == [(109 : UInt8), (97 : UInt8), (120 : UInt8)]) = true →
 (decide (n_9 > (0 : Int)) = true →
 ∃ (y : K9),
 ValsAre
 [AV.ptr ((1 : Nat)) ((0 : Nat)), AV.ptr ((2 : Nat)) ((0 : Nat)),
 AV.ptr ((3 : Nat)) ((0 : Nat)), AV.bool true,
 AV.sl ((6 : Nat)) (cesL l) Own.no,
 AV.int IntKind.i64 (↑l.length : Int),
 AV.int IntKind.i64 (↑x_1.i : Int),
 AV.sl ((6 : Nat)) (itsL x_1.c.st.its) Own.no,
 AV.int IntKind.i64 (↑x_1.c.st.its.length : Int),
 AV.int IntKind.i64
 (IntKind.i64.wrap ((↑x_1.j : Int) + (1 : Int)))]
 [AV.ptr ((1 : Nat)) ((0 : Nat)), AV.ptr ((2 : Nat)) ((0 : Nat)),
 AV.ptr ((3 : Nat)) ((0 : Nat)), AV.bool y.b.f,
 AV.sl ((6 : Nat)) (cesL l) Own.no,
 AV.int IntKind.i64 (↑l.length : Int),
 AV.int IntKind.i64 (↑y.i : Int),
 AV.sl ((6 : Nat)) (itsL y.c.st.its) Own.no,
 AV.int IntKind.i64 (↑y.c.st.its.length : Int),
 AV.int IntKind.i64 (↑y.j : Int)] ∧
 StIs
 { boxes := [some [AV.tup [AV.int IntKind.i64 (106 : Int), AV.agg [AV.bool f]]], some [AV.str op, AV.int IntKind.i64 param, AV.int IntKind.i64 kind, AV.int IntKind.i64 t, AV.int IntKind.i64 n, AV.sl ((6 : Nat)) (cesL l) Own.no], some [AV.int IntKind.i64 (0 : Int), AV.int IntKind.i64 (0 : Int), AV.str []], some [AV.int IntKind.i64 n_5, AV.int IntKind.i64 n_6, AV.str s], some [AV.int IntKind.i64 x_1.c.ev, AV.int IntKind.i64 x_1.c.st.n, AV.int IntKind.i64 x_1.c.st.h, AV.int IntKind.u64 x_1.c.st.l, AV.sl ((6 : Nat)) (itsL x_1.c.st.its) Own.no, AV.sl ((2 : Nat)) (bksL x_1.c.st.bks) Own.no]], live := [] }
 { boxes := [some [AV.tup [AV.int IntKind.i64 (106 : Int), AV.agg [AV.bool f]]], some [AV.str op, AV.int IntKind.i64 param, AV.int IntKind.i64 kind, AV.int IntKind.i64 t, AV.int IntKind.i64 n, AV.sl ((6 : Nat)) (cesL l) Own.no], some [AV.int IntKind.i64 (0 : Int), AV.int IntKind.i64 (0 : Int), AV.str []], some [AV.int IntKind.i64 y.b.k, AV.int IntKind.i64 y.b.n, AV.str y.b.s], some [AV.int IntKind.i64 y.c.ev, AV.int IntKind.i64 y.c.st.n, AV.int IntKind.i64 y.c.st.h, AV.int IntKind.u64 y.c.st.l, AV.sl ((6 : Nat)) (itsL y.c.st.its) Own.no, AV.sl ((2 : Nat)) (bksL y.c.st.bks) Own.no]], live := [] } ∧
 (l[y.i]? = some y.c ∧
 y.j ≤ y.c.st.its.length ∧
 bestP op
 (itsOf (List.take y.i l) ++
 List.take y.j y.c.st.its) =
 y.b) ∧
 some (AV.int IntKind.i64 (↑x.fst : Int)) =
 some (AV.int IntKind.i64 (↑y.i : Int)) ∧
 y.c.st.its.length - y.j < x_1.c.st.its.length - x_1.j) ∧
 (decide (n_9 > (0 : Int)) = false →
 ∃ (y : K9),
 ValsAre
 [AV.ptr ((1 : Nat)) ((0 : Nat)), AV.ptr ((2 : Nat)) ((0 : Nat)),
 AV.ptr ((3 : Nat)) ((0 : Nat)), AV.bool true,
 AV.sl ((6 : Nat)) (cesL l) Own.no,
 AV.int IntKind.i64 (↑l.length : Int),
 AV.int IntKind.i64 (↑x_1.i : Int),
 AV.sl ((6 : Nat)) (itsL x_1.c.st.its) Own.no,
 AV.int IntKind.i64 (↑x_1.c.st.its.length : Int),
 AV.int IntKind.i64
 (IntKind.i64.wrap ((↑x_1.j : Int) + (1 : Int)))]
 [AV.ptr ((1 : Nat)) ((0 : Nat)), AV.ptr ((2 : Nat)) ((0 : Nat)),
 AV.ptr ((3 : Nat)) ((0 : Nat)), AV.bool y.b.f,
 AV.sl ((6 : Nat)) (cesL l) Own.no,
 AV.int IntKind.i64 (↑l.length : Int),
 AV.int IntKind.i64 (↑y.i : Int),
 AV.sl ((6 : Nat)) (itsL y.c.st.its) Own.no,
 AV.int IntKind.i64 (↑y.c.st.its.length : Int),
 AV.int IntKind.i64 (↑y.j : Int)] ∧
 StIs
 { boxes := [some [AV.tup [AV.int IntKind.i64 (106 : Int), AV.agg [AV.bool f]]], some [AV.str op, AV.int IntKind.i64 param, AV.int IntKind.i64 kind, AV.int IntKind.i64 t, AV.int IntKind.i64 n, AV.sl ((6 : Nat)) (cesL l) Own.no], some [AV.int IntKind.i64 (0 : Int), AV.int IntKind.i64 (0 : Int), AV.str []], some [AV.int IntKind.i64 x_1.b.k, AV.int IntKind.i64 x_1.b.n, AV.str x_1.b.s], some [AV.int IntKind.i64 x_1.c.ev, AV.int IntKind.i64 x_1.c.st.n, AV.int IntKind.i64 x_1.c.st.h, AV.int IntKind.u64 x_1.c.st.l, AV.sl ((6 : Nat)) (itsL x_1.c.st.its) Own.no, AV.sl ((2 : Nat)) (bksL x_1.c.st.bks) Own.no]], live := [] }
 { boxes := [some [AV.tup [AV.int IntKind.i64 (106 : Int), AV.agg [AV.bool f]]], some [AV.str op, AV.int IntKind.i64 param, AV.int IntKind.i64 kind, AV.int IntKind.i64 t, AV.int IntKind.i64 n, AV.sl ((6 : Nat)) (cesL l) Own.no], some [AV.int IntKind.i64 (0 : Int), AV.int IntKind.i64 (0 : Int), AV.str []], some [AV.int IntKind.i64 y.b.k, AV.int IntKind.i64 y.b.n, AV.str y.b.s], some [AV.int IntKind.i64 y.c.ev, AV.int IntKind.i64 y.c.st.n, AV.int IntKind.i64 y.c.st.h, AV.int IntKind.u64 y.c.st.l, AV.sl ((6 : Nat)) (itsL y.c.st.its) Own.no, AV.sl ((2 : Nat)) (bksL y.c.st.bks) Own.no]], live := [] } ∧
 (l[y.i]? = some y.c ∧
 y.j ≤ y.c.st.its.length ∧
 bestP op
 (itsOf (List.take y.i l) ++
 List.take y.j y.c.st.its) =
 y.b) ∧
 some (AV.int IntKind.i64 (↑x.fst : Int)) =
 some (AV.int IntKind.i64 (↑y.i : Int)) ∧
 y.c.st.its.length - y.j < x_1.c.st.its.length - x_1.j)) ∧
 ((op == [(109 : UInt8), (97 : UInt8), (120 : UInt8)]) = false →
 ∃ (y : K9),
 ValsAre
 [AV.ptr ((1 : Nat)) ((0 : Nat)), AV.ptr ((2 : Nat)) ((0 : Nat)),
 AV.ptr ((3 : Nat)) ((0 : Nat)), AV.bool true,
 AV.sl ((6 : Nat)) (cesL l) Own.no,
 AV.int IntKind.i64 (↑l.length : Int),
 AV.int IntKind.i64 (↑x_1.i : Int),
 AV.sl ((6 : Nat)) (itsL x_1.c.st.its) Own.no,
 AV.int IntKind.i64 (↑x_1.c.st.its.length : Int),
 AV.int IntKind.i64
 (IntKind.i64.wrap ((↑x_1.j : Int) + (1 : Int)))]
 [AV.ptr ((1 : Nat)) ((0 : Nat)), AV.ptr ((2 : Nat)) ((0 : Nat)),
 AV.ptr ((3 : Nat)) ((0 : Nat)), AV.bool y.b.f,
 AV.sl ((6 : Nat)) (cesL l) Own.no,
 AV.int IntKind.i64 (↑l.length : Int),
 AV.int IntKind.i64 (↑y.i : Int),
 AV.sl ((6 : Nat)) (itsL y.c.st.its) Own.no,
 AV.int IntKind.i64 (↑y.c.st.its.length : Int),
 AV.int IntKind.i64 (↑y.j : Int)] ∧
 StIs
 { boxes := [some [AV.tup [AV.int IntKind.i64 (106 : Int), AV.agg [AV.bool f]]], some [AV.str op, AV.int IntKind.i64 param, AV.int IntKind.i64 kind, AV.int IntKind.i64 t, AV.int IntKind.i64 n, AV.sl ((6 : Nat)) (cesL l) Own.no], some [AV.int IntKind.i64 (0 : Int), AV.int IntKind.i64 (0 : Int), AV.str []], some [AV.int IntKind.i64 x_1.b.k, AV.int IntKind.i64 x_1.b.n, AV.str x_1.b.s], some [AV.int IntKind.i64 x_1.c.ev, AV.int IntKind.i64 x_1.c.st.n, AV.int IntKind.i64 x_1.c.st.h, AV.int IntKind.u64 x_1.c.st.l, AV.sl ((6 : Nat)) (itsL x_1.c.st.its) Own.no, AV.sl ((2 : Nat)) (bksL x_1.c.st.bks) Own.no]], live := [] }
 { boxes := [some [AV.tup [AV.int IntKind.i64 (106 : Int), AV.agg [AV.bool f]]], some [AV.str op, AV.int IntKind.i64 param, AV.int IntKind.i64 kind, AV.int IntKind.i64 t, AV.int IntKind.i64 n, AV.sl ((6 : Nat)) (cesL l) Own.no], some [AV.int IntKind.i64 (0 : Int), AV.int IntKind.i64 (0 : Int), AV.str []], some [AV.int IntKind.i64 y.b.k, AV.int IntKind.i64 y.b.n, AV.str y.b.s], some [AV.int IntKind.i64 y.c.ev, AV.int IntKind.i64 y.c.st.n, AV.int IntKind.i64 y.c.st.h, AV.int IntKind.u64 y.c.st.l, AV.sl ((6 : Nat)) (itsL y.c.st.its) Own.no, AV.sl ((2 : Nat)) (bksL y.c.st.bks) Own.no]], live := [] } ∧
 (l[y.i]? = some y.c ∧
 y.j ≤ y.c.st.its.length ∧
 bestP op
 (itsOf (List.take y.i l) ++ List.take y.j y.c.st.its) =
 y.b) ∧
 some (AV.int IntKind.i64 (↑x.fst : Int)) =
 some (AV.int IntKind.i64 (↑y.i : Int)) ∧
 y.c.st.its.length - y.j < x_1.c.st.its.length - x_1.j))))) ∧
 (decide ((↑x_1.j : Int) < (↑x_1.c.st.its.length : Int)) = false →
 ∃ (y : Nat × Bst),
 ValsAre
 [AV.ptr ((1 : Nat)) ((0 : Nat)), AV.ptr ((2 : Nat)) ((0 : Nat)), AV.ptr ((3 : Nat)) ((0 : Nat)),
 AV.bool true, AV.sl ((6 : Nat)) (cesL l) Own.no, AV.int IntKind.i64 (↑l.length : Int),
 AV.int IntKind.i64 (IntKind.i64.wrap ((↑x_1.i : Int) + (1 : Int)))]
 [AV.ptr ((1 : Nat)) ((0 : Nat)), AV.ptr ((2 : Nat)) ((0 : Nat)), AV.ptr ((3 : Nat)) ((0 : Nat)),
 AV.bool y.snd.f, AV.sl ((6 : Nat)) (cesL l) Own.no, AV.int IntKind.i64 (↑l.length : Int),
 AV.int IntKind.i64 (↑y.fst : Int)] ∧
 StIs
 { boxes := [some [AV.tup [AV.int IntKind.i64 (106 : Int), AV.agg [AV.bool f]]], some [AV.str op, AV.int IntKind.i64 param, AV.int IntKind.i64 kind, AV.int IntKind.i64 t, AV.int IntKind.i64 n, AV.sl ((6 : Nat)) (cesL l) Own.no], some [AV.int IntKind.i64 (0 : Int), AV.int IntKind.i64 (0 : Int), AV.str []], some [AV.int IntKind.i64 x_1.b.k, AV.int IntKind.i64 x_1.b.n, AV.str x_1.b.s]], live := [] }
 { boxes := [some [AV.tup [AV.int IntKind.i64 (106 : Int), AV.agg [AV.bool f]]], some [AV.str op, AV.int IntKind.i64 param, AV.int IntKind.i64 kind, AV.int IntKind.i64 t, AV.int IntKind.i64 n, AV.sl ((6 : Nat)) (cesL l) Own.no], some [AV.int IntKind.i64 (0 : Int), AV.int IntKind.i64 (0 : Int), AV.str []], some [AV.int IntKind.i64 y.snd.k, AV.int IntKind.i64 y.snd.n, AV.str y.snd.s]], live := [] } ∧
 (y.fst ≤ l.length ∧ bestP op (itsOf (List.take y.fst l)) = y.snd) ∧
 l.length - y.fst < l.length - x.fst)) ∧
 (x_1.b.f = false →
 (decide ((↑x_1.j : Int) < (↑x_1.c.st.its.length : Int)) = true →
 ((0 : Int) ≤ (↑x_1.j : Int) ∧ (↑x_1.j : Int) < (↑(itsL x_1.c.st.its).length : Int)) ∧
 ∃ (n_5 : Int),
 ∃ (n_6 : Int),
 ∃ (s : List UInt8),
 ∃ (s_1 : List UInt8),
 ∃ (n_7 : Int),
 ∃ (n_8 : Int),
 takeAt PA ((51 : Nat)) (itsL x_1.c.st.its) (↑x_1.j : Int).toNat ((0 : Nat)) =
 some
 (AV.agg
 [AV.int IntKind.i64 n_5, AV.int IntKind.i64 n_6, AV.str s, AV.str s_1,
 AV.int IntKind.i64 n_7, AV.int IntKind.i64 n_8]) ∧
 (decide (n_8 ≤ (0 : Int)) = true →
 ∃ (y : K9),
 ValsAre
 [AV.ptr ((1 : Nat)) ((0 : Nat)), AV.ptr ((2 : Nat)) ((0 : Nat)),
 AV.ptr ((3 : Nat)) ((0 : Nat)), AV.bool false, AV.sl ((6 : Nat)) (cesL l) Own.no,
 AV.int IntKind.i64 (↑l.length : Int), AV.int IntKind.i64 (↑x_1.i : Int),
 AV.sl ((6 : Nat)) (itsL x_1.c.st.its) Own.no,
 AV.int IntKind.i64 (↑x_1.c.st.its.length : Int),
 AV.int IntKind.i64 (IntKind.i64.wrap ((↑x_1.j : Int) + (1 : Int)))]
 [AV.ptr ((1 : Nat)) ((0 : Nat)), AV.ptr ((2 : Nat)) ((0 : Nat)),
 AV.ptr ((3 : Nat)) ((0 : Nat)), AV.bool y.b.f, AV.sl ((6 : Nat)) (cesL l) Own.no,
 AV.int IntKind.i64 (↑l.length : Int), AV.int IntKind.i64 (↑y.i : Int),
 AV.sl ((6 : Nat)) (itsL y.c.st.its) Own.no,
 AV.int IntKind.i64 (↑y.c.st.its.length : Int), AV.int IntKind.i64 (↑y.j : Int)] ∧
 StIs
 { boxes := [some [AV.tup [AV.int IntKind.i64 (106 : Int), AV.agg [AV.bool f]]], some [AV.str op, AV.int IntKind.i64 param, AV.int IntKind.i64 kind, AV.int IntKind.i64 t, AV.int IntKind.i64 n, AV.sl ((6 : Nat)) (cesL l) Own.no], some [AV.int IntKind.i64 (0 : Int), AV.int IntKind.i64 (0 : Int), AV.str []], some [AV.int IntKind.i64 x_1.b.k, AV.int IntKind.i64 x_1.b.n, AV.str x_1.b.s], some [AV.int IntKind.i64 x_1.c.ev, AV.int IntKind.i64 x_1.c.st.n, AV.int IntKind.i64 x_1.c.st.h, AV.int IntKind.u64 x_1.c.st.l, AV.sl ((6 : Nat)) (itsL x_1.c.st.its) Own.no, AV.sl ((2 : Nat)) (bksL x_1.c.st.bks) Own.no]], live := [] }
 { boxes := [some [AV.tup [AV.int IntKind.i64 (106 : Int), AV.agg [AV.bool f]]], some [AV.str op, AV.int IntKind.i64 param, AV.int IntKind.i64 kind, AV.int IntKind.i64 t, AV.int IntKind.i64 n, AV.sl ((6 : Nat)) (cesL l) Own.no], some [AV.int IntKind.i64 (0 : Int), AV.int IntKind.i64 (0 : Int), AV.str []], some [AV.int IntKind.i64 y.b.k, AV.int IntKind.i64 y.b.n, AV.str y.b.s], some [AV.int IntKind.i64 y.c.ev, AV.int IntKind.i64 y.c.st.n, AV.int IntKind.i64 y.c.st.h, AV.int IntKind.u64 y.c.st.l, AV.sl ((6 : Nat)) (itsL y.c.st.its) Own.no, AV.sl ((2 : Nat)) (bksL y.c.st.bks) Own.no]], live := [] } ∧
 (l[y.i]? = some y.c ∧
 y.j ≤ y.c.st.its.length ∧
 bestP op (itsOf (List.take y.i l) ++ List.take y.j y.c.st.its) = y.b) ∧
 some (AV.int IntKind.i64 (↑x.fst : Int)) =
 some (AV.int IntKind.i64 (↑y.i : Int)) ∧
 y.c.st.its.length - y.j < x_1.c.st.its.length - x_1.j) ∧
 (decide (n_8 ≤ (0 : Int)) = false →
 ∃ (n_9 : Int),
 CallIs (some (AV.int IntKind.i64 (cmpV n_5 n_6 s x_1.b.k x_1.b.n x_1.b.s), []))
 (AV.int IntKind.i64 n_9) [] ∧
 ∃ (y : K9),
 ValsAre
 [AV.ptr ((1 : Nat)) ((0 : Nat)), AV.ptr ((2 : Nat)) ((0 : Nat)),
 AV.ptr ((3 : Nat)) ((0 : Nat)), AV.bool true,
 AV.sl ((6 : Nat)) (cesL l) Own.no, AV.int IntKind.i64 (↑l.length : Int),
 AV.int IntKind.i64 (↑x_1.i : Int),
 AV.sl ((6 : Nat)) (itsL x_1.c.st.its) Own.no,
 AV.int IntKind.i64 (↑x_1.c.st.its.length : Int),
 AV.int IntKind.i64 (IntKind.i64.wrap ((↑x_1.j : Int) + (1 : Int)))]
 [AV.ptr ((1 : Nat)) ((0 : Nat)), AV.ptr ((2 : Nat)) ((0 : Nat)),
 AV.ptr ((3 : Nat)) ((0 : Nat)), AV.bool y.b.f,
 AV.sl ((6 : Nat)) (cesL l) Own.no, AV.int IntKind.i64 (↑l.length : Int),
 AV.int IntKind.i64 (↑y.i : Int), AV.sl ((6 : Nat)) (itsL y.c.st.its) Own.no,
 AV.int IntKind.i64 (↑y.c.st.its.length : Int),
 AV.int IntKind.i64 (↑y.j : Int)] ∧
 StIs
 { boxes := [some [AV.tup [AV.int IntKind.i64 (106 : Int), AV.agg [AV.bool f]]], some [AV.str op, AV.int IntKind.i64 param, AV.int IntKind.i64 kind, AV.int IntKind.i64 t, AV.int IntKind.i64 n, AV.sl ((6 : Nat)) (cesL l) Own.no], some [AV.int IntKind.i64 (0 : Int), AV.int IntKind.i64 (0 : Int), AV.str []], some [AV.int IntKind.i64 n_5, AV.int IntKind.i64 n_6, AV.str s], some [AV.int IntKind.i64 x_1.c.ev, AV.int IntKind.i64 x_1.c.st.n, AV.int IntKind.i64 x_1.c.st.h, AV.int IntKind.u64 x_1.c.st.l, AV.sl ((6 : Nat)) (itsL x_1.c.st.its) Own.no, AV.sl ((2 : Nat)) (bksL x_1.c.st.bks) Own.no]], live := [] }
 { boxes := [some [AV.tup [AV.int IntKind.i64 (106 : Int), AV.agg [AV.bool f]]], some [AV.str op, AV.int IntKind.i64 param, AV.int IntKind.i64 kind, AV.int IntKind.i64 t, AV.int IntKind.i64 n, AV.sl ((6 : Nat)) (cesL l) Own.no], some [AV.int IntKind.i64 (0 : Int), AV.int IntKind.i64 (0 : Int), AV.str []], some [AV.int IntKind.i64 y.b.k, AV.int IntKind.i64 y.b.n, AV.str y.b.s], some [AV.int IntKind.i64 y.c.ev, AV.int IntKind.i64 y.c.st.n, AV.int IntKind.i64 y.c.st.h, AV.int IntKind.u64 y.c.st.l, AV.sl ((6 : Nat)) (itsL y.c.st.its) Own.no, AV.sl ((2 : Nat)) (bksL y.c.st.bks) Own.no]], live := [] } ∧
 (l[y.i]? = some y.c ∧
 y.j ≤ y.c.st.its.length ∧
 bestP op (itsOf (List.take y.i l) ++ List.take y.j y.c.st.its) = y.b) ∧
 some (AV.int IntKind.i64 (↑x.fst : Int)) =
 some (AV.int IntKind.i64 (↑y.i : Int)) ∧
 y.c.st.its.length - y.j < x_1.c.st.its.length - x_1.j)) ∧
 (decide ((↑x_1.j : Int) < (↑x_1.c.st.its.length : Int)) = false →
 ∃ (y : Nat × Bst),
 ValsAre
 [AV.ptr ((1 : Nat)) ((0 : Nat)), AV.ptr ((2 : Nat)) ((0 : Nat)), AV.ptr ((3 : Nat)) ((0 : Nat)),
 AV.bool false, AV.sl ((6 : Nat)) (cesL l) Own.no, AV.int IntKind.i64 (↑l.length : Int),
 AV.int IntKind.i64 (IntKind.i64.wrap ((↑x_1.i : Int) + (1 : Int)))]
 [AV.ptr ((1 : Nat)) ((0 : Nat)), AV.ptr ((2 : Nat)) ((0 : Nat)), AV.ptr ((3 : Nat)) ((0 : Nat)),
 AV.bool y.snd.f, AV.sl ((6 : Nat)) (cesL l) Own.no, AV.int IntKind.i64 (↑l.length : Int),
 AV.int IntKind.i64 (↑y.fst : Int)] ∧
 StIs
 { boxes := [some [AV.tup [AV.int IntKind.i64 (106 : Int), AV.agg [AV.bool f]]], some [AV.str op, AV.int IntKind.i64 param, AV.int IntKind.i64 kind, AV.int IntKind.i64 t, AV.int IntKind.i64 n, AV.sl ((6 : Nat)) (cesL l) Own.no], some [AV.int IntKind.i64 (0 : Int), AV.int IntKind.i64 (0 : Int), AV.str []], some [AV.int IntKind.i64 x_1.b.k, AV.int IntKind.i64 x_1.b.n, AV.str x_1.b.s]], live := [] }
 { boxes := [some [AV.tup [AV.int IntKind.i64 (106 : Int), AV.agg [AV.bool f]]], some [AV.str op, AV.int IntKind.i64 param, AV.int IntKind.i64 kind, AV.int IntKind.i64 t, AV.int IntKind.i64 n, AV.sl ((6 : Nat)) (cesL l) Own.no], some [AV.int IntKind.i64 (0 : Int), AV.int IntKind.i64 (0 : Int), AV.str []], some [AV.int IntKind.i64 y.snd.k, AV.int IntKind.i64 y.snd.n, AV.str y.snd.s]], live := [] } ∧
 (y.fst ≤ l.length ∧ bestP op (itsOf (List.take y.fst l)) = y.snd) ∧
 l.length - y.fst < l.length - x.fst))) ∧
 (decide ((↑x.fst : Int) < (↑l.length : Int)) = false →
 RetIs (AV.agg [AV.int IntKind.i64 x.snd.k, AV.int IntKind.i64 x.snd.n, AV.str x.snd.s]) [] (r, []))))) := by kernel_rfl
theorem w18N (k0 : Int) (op : List UInt8) (param kind t : Int) (l : List CeI) (r : AV) : (pureW PA GA (XR none) (tbl [(40, s24)]) (itbl []) (a18 k0 op param kind t l (.lit .nilIface) false) [] 9 [.agg (exC k0 op param), .int .i64 kind, .sl 6 (cesL l) .no, .int .i64 t] (r, [])) =
(CallIs (some (famR (famO op), [])) (AV.tup [AV.lit Value.nilIface, AV.bool false]) [] ∧
  (false = true →
      (∃ (y : Nat),
 ValsAre
 [AV.agg
 [AV.int IntKind.i64 k0, AV.str op, AV.str [], AV.str [], AV.int IntKind.i64 (0 : Int), AV.int IntKind.i64 (0 : Int), AV.str [],
 AV.sl ((0 : Nat)) [] Own.nil, AV.int IntKind.i64 param, AV.int IntKind.i64 (0 : Int), AV.int IntKind.i64 (0 : Int),
 AV.sl ((0 : Nat)) [] Own.nil],
 AV.int IntKind.i64 kind, AV.sl ((6 : Nat)) (cesL l) Own.no, AV.int IntKind.i64 t, AV.ptr ((0 : Nat)) ((0 : Nat)),
 AV.ptr ((1 : Nat)) ((0 : Nat)), AV.lit Value.nilIface, AV.bool true, AV.ptr ((2 : Nat)) ((0 : Nat)), AV.sl ((6 : Nat)) (cesL l) Own.no,
 AV.int IntKind.i64 (↑(cesL l).length : Int), AV.int IntKind.i64 (0 : Int)]
 [AV.agg
 [AV.int IntKind.i64 k0, AV.str op, AV.str [], AV.str [], AV.int IntKind.i64 (0 : Int), AV.int IntKind.i64 (0 : Int), AV.str [],
 AV.sl ((0 : Nat)) [] Own.nil, AV.int IntKind.i64 param, AV.int IntKind.i64 (0 : Int), AV.int IntKind.i64 (0 : Int),
 AV.sl ((0 : Nat)) [] Own.nil],
 AV.int IntKind.i64 kind, AV.sl ((6 : Nat)) (cesL l) Own.no, AV.int IntKind.i64 t, AV.ptr ((0 : Nat)) ((0 : Nat)),
 AV.ptr ((1 : Nat)) ((0 : Nat)), AV.lit Value.nilIface, AV.bool false, AV.ptr ((2 : Nat)) ((0 : Nat)), AV.sl ((6 : Nat)) (cesL l) Own.no,
 AV.int IntKind.i64 (↑l.length : Int), AV.int IntKind.i64 (↑y : Int)] ∧
 StIs
 { boxes := [some [AV.int IntKind.i64 k0, AV.str op, AV.str [], AV.str [], AV.int IntKind.i64 (0 : Int), AV.int IntKind.i64 (0 : Int), AV.str [], AV.sl ((0 : Nat)) [] Own.nil, AV.int IntKind.i64 param, AV.int IntKind.i64 (0 : Int), AV.int IntKind.i64 (0 : Int), AV.sl ((0 : Nat)) [] Own.nil], some [AV.int IntKind.i64 (0 : Int), AV.int IntKind.i64 (0 : Int), AV.str []], some [AV.str op, AV.int IntKind.i64 param, AV.int IntKind.i64 kind, AV.int IntKind.i64 t, AV.int IntKind.i64 (0 : Int), AV.sl ((6 : Nat)) (cesL l) Own.no]], live := [] }
 { boxes := [some [AV.int IntKind.i64 k0, AV.str op, AV.str [], AV.str [], AV.int IntKind.i64 (0 : Int), AV.int IntKind.i64 (0 : Int), AV.str [], AV.sl ((0 : Nat)) [] Own.nil, AV.int IntKind.i64 param, AV.int IntKind.i64 (0 : Int), AV.int IntKind.i64 (0 : Int), AV.sl ((0 : Nat)) [] Own.nil], some [AV.int IntKind.i64 (0 : Int), AV.int IntKind.i64 (0 : Int), AV.str []], some [AV.str op, AV.int IntKind.i64 param, AV.int IntKind.i64 kind, AV.int IntKind.i64 t, AV.int IntKind.i64 (cntP (List.take y l)), AV.sl ((6 : Nat)) (cesL l) Own.no]], live := [] } ∧
 y ≤ l.length ∧ True) ∧
        ∀ (x : Nat),
 x ≤ l.length →
 (decide ((↑x : Int) < (↑l.length : Int)) = true →
 ((0 : Int) ≤ (↑x : Int) ∧ (↑x : Int) < (↑(cesL l).length : Int)) ∧
 ∃ (n : Int),
 ∃ (n_1 : Int),
 ∃ (n_2 : Int),
 ∃ (n_3 : Int),
 ∃ (es : List AV),
 ∃ (es_1 : List AV),
 takeAt PA ((42 : Nat)) (cesL l) (↑x : Int).toNat ((0 : Nat)) =
 some
 (AV.agg
 [AV.int IntKind.i64 n, AV.int IntKind.i64 n_1, AV.int IntKind.i64 n_2, AV.int IntKind.u64 n_3,
 AV.sl ((6 : Nat)) es Own.no, AV.sl ((2 : Nat)) es_1 Own.no]) ∧
 ∃ (y : Nat),
 ValsAre
 [AV.agg
 [AV.int IntKind.i64 k0, AV.str op, AV.str [], AV.str [], AV.int IntKind.i64 (0 : Int), AV.int IntKind.i64 (0 : Int),
 AV.str [], AV.sl ((0 : Nat)) [] Own.nil, AV.int IntKind.i64 param, AV.int IntKind.i64 (0 : Int),
 AV.int IntKind.i64 (0 : Int), AV.sl ((0 : Nat)) [] Own.nil],
 AV.int IntKind.i64 kind, AV.sl ((6 : Nat)) (cesL l) Own.no, AV.int IntKind.i64 t, AV.ptr ((0 : Nat)) ((0 : Nat)),
 AV.ptr ((1 : Nat)) ((0 : Nat)), AV.lit Value.nilIface, AV.bool false, AV.ptr ((2 : Nat)) ((0 : Nat)),
 AV.sl ((6 : Nat)) (cesL l) Own.no, AV.int IntKind.i64 (↑l.length : Int),
 AV.int IntKind.i64 (IntKind.i64.wrap ((↑x : Int) + (1 : Int)))]
 [AV.agg
 [AV.int IntKind.i64 k0, AV.str op, AV.str [], AV.str [], AV.int IntKind.i64 (0 : Int), AV.int IntKind.i64 (0 : Int),
 AV.str [], AV.sl ((0 : Nat)) [] Own.nil, AV.int IntKind.i64 param, AV.int IntKind.i64 (0 : Int),
 AV.int IntKind.i64 (0 : Int), AV.sl ((0 : Nat)) [] Own.nil],
 AV.int IntKind.i64 kind, AV.sl ((6 : Nat)) (cesL l) Own.no, AV.int IntKind.i64 t, AV.ptr ((0 : Nat)) ((0 : Nat)),
 AV.ptr ((1 : Nat)) ((0 : Nat)), AV.lit Value.nilIface, AV.bool false, AV.ptr ((2 : Nat)) ((0 : Nat)),
 AV.sl ((6 : Nat)) (cesL l) Own.no, AV.int IntKind.i64 (↑l.length : Int), AV.int IntKind.i64 (↑y : Int)] ∧
 StIs
 { boxes := [some [AV.int IntKind.i64 k0, AV.str op, AV.str [], AV.str [], AV.int IntKind.i64 (0 : Int), AV.int IntKind.i64 (0 : Int), AV.str [], AV.sl ((0 : Nat)) [] Own.nil, AV.int IntKind.i64 param, AV.int IntKind.i64 (0 : Int), AV.int IntKind.i64 (0 : Int), AV.sl ((0 : Nat)) [] Own.nil], some [AV.int IntKind.i64 (0 : Int), AV.int IntKind.i64 (0 : Int), AV.str []], some [AV.str op, AV.int IntKind.i64 param, AV.int IntKind.i64 kind, AV.int IntKind.i64 t, AV.int IntKind.i64 (IntKind.i64.wrap (cntP (List.take x l) + n_1)), AV.sl ((6 : Nat)) (cesL l) Own.no]], live := [] }
 { boxes := [some [AV.int IntKind.i64 k0, AV.str op, AV.str [], AV.str [], AV.int IntKind.i64 (0 : Int), AV.int IntKind.i64 (0 : Int), AV.str [], AV.sl ((0 : Nat)) [] Own.nil, AV.int IntKind.i64 param, AV.int IntKind.i64 (0 : Int), AV.int IntKind.i64 (0 : Int), AV.sl ((0 : Nat)) [] Own.nil], some [AV.int IntKind.i64 (0 : Int), AV.int IntKind.i64 (0 : Int), AV.str []], some [AV.str op, AV.int IntKind.i64 param, AV.int IntKind.i64 kind, AV.int IntKind.i64 t, AV.int IntKind.i64 (cntP (List.take y l)), AV.sl ((6 : Nat)) (cesL l) Own.no]], live := [] } ∧
 y ≤ l.length ∧ l.length - y < l.length - x) ∧
 (decide ((↑x : Int) < (↑l.length : Int)) = false →
 RetIs (AV.agg [AV.int IntKind.i64 (0 : Int), AV.int IntKind.i64 (0 : Int), AV.str []]) [] (r, []))) ∧
    (false = false →
      (∃ (y : Nat),
 ValsAre
 [AV.agg
 [AV.int IntKind.i64 k0, AV.str op, AV.str [], AV.str [], AV.int IntKind.i64 (0 : Int), AV.int IntKind.i64 (0 : Int), AV.str [],
 AV.sl ((0 : Nat)) [] Own.nil, AV.int IntKind.i64 param, AV.int IntKind.i64 (0 : Int), AV.int IntKind.i64 (0 : Int),
 AV.sl ((0 : Nat)) [] Own.nil],
 AV.int IntKind.i64 kind, AV.sl ((6 : Nat)) (cesL l) Own.no, AV.int IntKind.i64 t, AV.ptr ((0 : Nat)) ((0 : Nat)),
 AV.ptr ((1 : Nat)) ((0 : Nat)), AV.lit Value.nilIface, AV.bool false, AV.ptr ((2 : Nat)) ((0 : Nat)), AV.sl ((6 : Nat)) (cesL l) Own.no,
 AV.int IntKind.i64 (↑(cesL l).length : Int), AV.int IntKind.i64 (0 : Int)]
 [AV.agg
 [AV.int IntKind.i64 k0, AV.str op, AV.str [], AV.str [], AV.int IntKind.i64 (0 : Int), AV.int IntKind.i64 (0 : Int), AV.str [],
 AV.sl ((0 : Nat)) [] Own.nil, AV.int IntKind.i64 param, AV.int IntKind.i64 (0 : Int), AV.int IntKind.i64 (0 : Int),
 AV.sl ((0 : Nat)) [] Own.nil],
 AV.int IntKind.i64 kind, AV.sl ((6 : Nat)) (cesL l) Own.no, AV.int IntKind.i64 t, AV.ptr ((0 : Nat)) ((0 : Nat)),
 AV.ptr ((1 : Nat)) ((0 : Nat)), AV.lit Value.nilIface, AV.bool false, AV.ptr ((2 : Nat)) ((0 : Nat)), AV.sl ((6 : Nat)) (cesL l) Own.no,
 AV.int IntKind.i64 (↑l.length : Int), AV.int IntKind.i64 (↑y : Int)] ∧
 StIs
 { boxes := [some [AV.int IntKind.i64 k0, AV.str op, AV.str [], AV.str [], AV.int IntKind.i64 (0 : Int), AV.int IntKind.i64 (0 : Int), AV.str [], AV.sl ((0 : Nat)) [] Own.nil, AV.int IntKind.i64 param, AV.int IntKind.i64 (0 : Int), AV.int IntKind.i64 (0 : Int), AV.sl ((0 : Nat)) [] Own.nil], some [AV.int IntKind.i64 (0 : Int), AV.int IntKind.i64 (0 : Int), AV.str []], some [AV.str op, AV.int IntKind.i64 param, AV.int IntKind.i64 kind, AV.int IntKind.i64 t, AV.int IntKind.i64 (0 : Int), AV.sl ((6 : Nat)) (cesL l) Own.no]], live := [] }
 { boxes := [some [AV.int IntKind.i64 k0, AV.str op, AV.str [], AV.str [], AV.int IntKind.i64 (0 : Int), AV.int IntKind.i64 (0 : Int), AV.str [], AV.sl ((0 : Nat)) [] Own.nil, AV.int IntKind.i64 param, AV.int IntKind.i64 (0 : Int), AV.int IntKind.i64 (0 : Int), AV.sl ((0 : Nat)) [] Own.nil], some [AV.int IntKind.i64 (0 : Int), AV.int IntKind.i64 (0 : Int), AV.str []], some [AV.str op, AV.int IntKind.i64 param, AV.int IntKind.i64 kind, AV.int IntKind.i64 t, AV.int IntKind.i64 (cntP (List.take y l)), AV.sl ((6 : Nat)) (cesL l) Own.no]], live := [] } ∧
 y ≤ l.length ∧ True) ∧
        ∀ (x : Nat),
 x ≤ l.length →
 (decide ((↑x : Int) < (↑l.length : Int)) = true →
 ((0 : Int) ≤ (↑x : Int) ∧ (↑x : Int) < (↑(cesL l).length : Int)) ∧
 ∃ (n : Int),
 ∃ (n_1 : Int),
 ∃ (n_2 : Int),
 ∃ (n_3 : Int),
 ∃ (es : List AV),
 ∃ (es_1 : List AV),
 takeAt PA ((42 : Nat)) (cesL l) (↑x : Int).toNat ((0 : Nat)) =
 some
 (AV.agg
 [AV.int IntKind.i64 n, AV.int IntKind.i64 n_1, AV.int IntKind.i64 n_2, AV.int IntKind.u64 n_3,
 AV.sl ((6 : Nat)) es Own.no, AV.sl ((2 : Nat)) es_1 Own.no]) ∧
 ∃ (y : Nat),
 ValsAre
 [AV.agg
 [AV.int IntKind.i64 k0, AV.str op, AV.str [], AV.str [], AV.int IntKind.i64 (0 : Int), AV.int IntKind.i64 (0 : Int),
 AV.str [], AV.sl ((0 : Nat)) [] Own.nil, AV.int IntKind.i64 param, AV.int IntKind.i64 (0 : Int),
 AV.int IntKind.i64 (0 : Int), AV.sl ((0 : Nat)) [] Own.nil],
 AV.int IntKind.i64 kind, AV.sl ((6 : Nat)) (cesL l) Own.no, AV.int IntKind.i64 t, AV.ptr ((0 : Nat)) ((0 : Nat)),
 AV.ptr ((1 : Nat)) ((0 : Nat)), AV.lit Value.nilIface, AV.bool false, AV.ptr ((2 : Nat)) ((0 : Nat)),
 AV.sl ((6 : Nat)) (cesL l) Own.no, AV.int IntKind.i64 (↑l.length : Int),
 AV.int IntKind.i64 (IntKind.i64.wrap ((↑x : Int) + (1 : Int)))]
 [AV.agg
 [AV.int IntKind.i64 k0, AV.str op, AV.str [], AV.str [], AV.int IntKind.i64 (0 : Int), AV.int IntKind.i64 (0 : Int),
 AV.str [], AV.sl ((0 : Nat)) [] Own.nil, AV.int IntKind.i64 param, AV.int IntKind.i64 (0 : Int),
 AV.int IntKind.i64 (0 : Int), AV.sl ((0 : Nat)) [] Own.nil],
 AV.int IntKind.i64 kind, AV.sl ((6 : Nat)) (cesL l) Own.no, AV.int IntKind.i64 t, AV.ptr ((0 : Nat)) ((0 : Nat)),
 AV.ptr ((1 : Nat)) ((0 : Nat)), AV.lit Value.nilIface, AV.bool false, AV.ptr ((2 : Nat)) ((0 : Nat)),
 AV.sl ((6 : Nat)) (cesL l) Own.no, AV.int IntKind.i64 (↑l.length : Int), AV.int IntKind.i64 (↑y : Int)] ∧
 StIs
 { boxes := [some [AV.int IntKind.i64 k0, AV.str op, AV.str [], AV.str [], AV.int IntKind.i64 (0 : Int), AV.int IntKind.i64 (0 : Int), AV.str [], AV.sl ((0 : Nat)) [] Own.nil, AV.int IntKind.i64 param, AV.int IntKind.i64 (0 : Int), AV.int IntKind.i64 (0 : Int), AV.sl ((0 : Nat)) [] Own.nil], some [AV.int IntKind.i64 (0 : Int), AV.int IntKind.i64 (0 : Int), AV.str []], some [AV.str op, AV.int IntKind.i64 param, AV.int IntKind.i64 kind, AV.int IntKind.i64 t, AV.int IntKind.i64 (IntKind.i64.wrap (cntP (List.take x l) + n_1)), AV.sl ((6 : Nat)) (cesL l) Own.no]], live := [] }
 { boxes := [some [AV.int IntKind.i64 k0, AV.str op, AV.str [], AV.str [], AV.int IntKind.i64 (0 : Int), AV.int IntKind.i64 (0 : Int), AV.str [], AV.sl ((0 : Nat)) [] Own.nil, AV.int IntKind.i64 param, AV.int IntKind.i64 (0 : Int), AV.int IntKind.i64 (0 : Int), AV.sl ((0 : Nat)) [] Own.nil], some [AV.int IntKind.i64 (0 : Int), AV.int IntKind.i64 (0 : Int), AV.str []], some [AV.str op, AV.int IntKind.i64 param, AV.int IntKind.i64 kind, AV.int IntKind.i64 t, AV.int IntKind.i64 (cntP (List.take y l)), AV.sl ((6 : Nat)) (cesL l) Own.no]], live := [] } ∧
 y ≤ l.length ∧ l.length - y < l.length - x) ∧
 (decide ((↑x : Int) < (↑l.length : Int)) = false →
 RetIs (AV.agg [AV.int IntKind.i64 (0 : Int), AV.int IntKind.i64 (0 : Int), AV.str []]) [] (r, [])))) := by kernel_rfl
theorem w18C (k0 : Int) (op : List UInt8) (param kind t : Int) (l : List CeI) (r : AV) : (pureW PA GA (XR (some .cnt)) (tbl [(40, s24), (103, s43)]) (itbl []) (a18 k0 op param kind t l (.lit (.iface 101 (.agg #[]))) true) [] 9 [.agg (exC k0 op param), .int .i64 kind, .sl 6 (cesL l) .no, .int .i64 t] (r, [])) =
(CallIs (some (famR (famO op), [])) (AV.tup [AV.lit (Value.iface (101 : TypeId) (Value.agg #[])), AV.bool true]) [] ∧
  (true = true →
      (∃ (y : Nat),
 ValsAre
 [AV.agg
 [AV.int IntKind.i64 k0, AV.str op, AV.str [], AV.str [], AV.int IntKind.i64 (0 : Int), AV.int IntKind.i64 (0 : Int), AV.str [],
 AV.sl ((0 : Nat)) [] Own.nil, AV.int IntKind.i64 param, AV.int IntKind.i64 (0 : Int), AV.int IntKind.i64 (0 : Int),
 AV.sl ((0 : Nat)) [] Own.nil],
 AV.int IntKind.i64 kind, AV.sl ((6 : Nat)) (cesL l) Own.no, AV.int IntKind.i64 t, AV.ptr ((0 : Nat)) ((0 : Nat)),
 AV.ptr ((1 : Nat)) ((0 : Nat)), AV.lit (Value.iface (101 : TypeId) (Value.agg #[])), AV.bool true, AV.ptr ((2 : Nat)) ((0 : Nat)),
 AV.sl ((6 : Nat)) (cesL l) Own.no, AV.int IntKind.i64 (↑(cesL l).length : Int), AV.int IntKind.i64 (0 : Int)]
 [AV.agg
 [AV.int IntKind.i64 k0, AV.str op, AV.str [], AV.str [], AV.int IntKind.i64 (0 : Int), AV.int IntKind.i64 (0 : Int), AV.str [],
 AV.sl ((0 : Nat)) [] Own.nil, AV.int IntKind.i64 param, AV.int IntKind.i64 (0 : Int), AV.int IntKind.i64 (0 : Int),
 AV.sl ((0 : Nat)) [] Own.nil],
 AV.int IntKind.i64 kind, AV.sl ((6 : Nat)) (cesL l) Own.no, AV.int IntKind.i64 t, AV.ptr ((0 : Nat)) ((0 : Nat)),
 AV.ptr ((1 : Nat)) ((0 : Nat)), AV.lit (Value.iface (101 : TypeId) (Value.agg #[])), AV.bool true, AV.ptr ((2 : Nat)) ((0 : Nat)),
 AV.sl ((6 : Nat)) (cesL l) Own.no, AV.int IntKind.i64 (↑l.length : Int), AV.int IntKind.i64 (↑y : Int)] ∧
 StIs
 { boxes := [some [AV.int IntKind.i64 k0, AV.str op, AV.str [], AV.str [], AV.int IntKind.i64 (0 : Int), AV.int IntKind.i64 (0 : Int), AV.str [], AV.sl ((0 : Nat)) [] Own.nil, AV.int IntKind.i64 param, AV.int IntKind.i64 (0 : Int), AV.int IntKind.i64 (0 : Int), AV.sl ((0 : Nat)) [] Own.nil], some [AV.int IntKind.i64 (0 : Int), AV.int IntKind.i64 (0 : Int), AV.str []], some [AV.str op, AV.int IntKind.i64 param, AV.int IntKind.i64 kind, AV.int IntKind.i64 t, AV.int IntKind.i64 (0 : Int), AV.sl ((6 : Nat)) (cesL l) Own.no]], live := [] }
 { boxes := [some [AV.int IntKind.i64 k0, AV.str op, AV.str [], AV.str [], AV.int IntKind.i64 (0 : Int), AV.int IntKind.i64 (0 : Int), AV.str [], AV.sl ((0 : Nat)) [] Own.nil, AV.int IntKind.i64 param, AV.int IntKind.i64 (0 : Int), AV.int IntKind.i64 (0 : Int), AV.sl ((0 : Nat)) [] Own.nil], some [AV.int IntKind.i64 (0 : Int), AV.int IntKind.i64 (0 : Int), AV.str []], some [AV.str op, AV.int IntKind.i64 param, AV.int IntKind.i64 kind, AV.int IntKind.i64 t, AV.int IntKind.i64 (cntP (List.take y l)), AV.sl ((6 : Nat)) (cesL l) Own.no]], live := [] } ∧
 y ≤ l.length ∧ True) ∧
        ∀ (x : Nat),
 x ≤ l.length →
 (decide ((↑x : Int) < (↑l.length : Int)) = true →
 ((0 : Int) ≤ (↑x : Int) ∧ (↑x : Int) < (↑(cesL l).length : Int)) ∧
 ∃ (n : Int),
 ∃ (n_1 : Int),
 ∃ (n_2 : Int),
 ∃ (n_3 : Int),
 ∃ (es : List AV),
 ∃ (es_1 : List AV),
 takeAt PA ((42 : Nat)) (cesL l) (↑x : Int).toNat ((0 : Nat)) =
 some
 (AV.agg
 [AV.int IntKind.i64 n, AV.int IntKind.i64 n_1, AV.int IntKind.i64 n_2, AV.int IntKind.u64 n_3,
 AV.sl ((6 : Nat)) es Own.no, AV.sl ((2 : Nat)) es_1 Own.no]) ∧
 ∃ (y : Nat),
 ValsAre
 [AV.agg
 [AV.int IntKind.i64 k0, AV.str op, AV.str [], AV.str [], AV.int IntKind.i64 (0 : Int), AV.int IntKind.i64 (0 : Int),
 AV.str [], AV.sl ((0 : Nat)) [] Own.nil, AV.int IntKind.i64 param, AV.int IntKind.i64 (0 : Int),
 AV.int IntKind.i64 (0 : Int), AV.sl ((0 : Nat)) [] Own.nil],
 AV.int IntKind.i64 kind, AV.sl ((6 : Nat)) (cesL l) Own.no, AV.int IntKind.i64 t, AV.ptr ((0 : Nat)) ((0 : Nat)),
 AV.ptr ((1 : Nat)) ((0 : Nat)), AV.lit (Value.iface (101 : TypeId) (Value.agg #[])), AV.bool true,
 AV.ptr ((2 : Nat)) ((0 : Nat)), AV.sl ((6 : Nat)) (cesL l) Own.no, AV.int IntKind.i64 (↑l.length : Int),
 AV.int IntKind.i64 (IntKind.i64.wrap ((↑x : Int) + (1 : Int)))]
 [AV.agg
 [AV.int IntKind.i64 k0, AV.str op, AV.str [], AV.str [], AV.int IntKind.i64 (0 : Int), AV.int IntKind.i64 (0 : Int),
 AV.str [], AV.sl ((0 : Nat)) [] Own.nil, AV.int IntKind.i64 param, AV.int IntKind.i64 (0 : Int),
 AV.int IntKind.i64 (0 : Int), AV.sl ((0 : Nat)) [] Own.nil],
 AV.int IntKind.i64 kind, AV.sl ((6 : Nat)) (cesL l) Own.no, AV.int IntKind.i64 t, AV.ptr ((0 : Nat)) ((0 : Nat)),
 AV.ptr ((1 : Nat)) ((0 : Nat)), AV.lit (Value.iface (101 : TypeId) (Value.agg #[])), AV.bool true,
 AV.ptr ((2 : Nat)) ((0 : Nat)), AV.sl ((6 : Nat)) (cesL l) Own.no, AV.int IntKind.i64 (↑l.length : Int),
 AV.int IntKind.i64 (↑y : Int)] ∧
 StIs
 { boxes := [some [AV.int IntKind.i64 k0, AV.str op, AV.str [], AV.str [], AV.int IntKind.i64 (0 : Int), AV.int IntKind.i64 (0 : Int), AV.str [], AV.sl ((0 : Nat)) [] Own.nil, AV.int IntKind.i64 param, AV.int IntKind.i64 (0 : Int), AV.int IntKind.i64 (0 : Int), AV.sl ((0 : Nat)) [] Own.nil], some [AV.int IntKind.i64 (0 : Int), AV.int IntKind.i64 (0 : Int), AV.str []], some [AV.str op, AV.int IntKind.i64 param, AV.int IntKind.i64 kind, AV.int IntKind.i64 t, AV.int IntKind.i64 (IntKind.i64.wrap (cntP (List.take x l) + n_1)), AV.sl ((6 : Nat)) (cesL l) Own.no]], live := [] }
 { boxes := [some [AV.int IntKind.i64 k0, AV.str op, AV.str [], AV.str [], AV.int IntKind.i64 (0 : Int), AV.int IntKind.i64 (0 : Int), AV.str [], AV.sl ((0 : Nat)) [] Own.nil, AV.int IntKind.i64 param, AV.int IntKind.i64 (0 : Int), AV.int IntKind.i64 (0 : Int), AV.sl ((0 : Nat)) [] Own.nil], some [AV.int IntKind.i64 (0 : Int), AV.int IntKind.i64 (0 : Int), AV.str []], some [AV.str op, AV.int IntKind.i64 param, AV.int IntKind.i64 kind, AV.int IntKind.i64 t, AV.int IntKind.i64 (cntP (List.take y l)), AV.sl ((6 : Nat)) (cesL l) Own.no]], live := [] } ∧
 y ≤ l.length ∧ l.length - y < l.length - x) ∧
 (decide ((↑x : Int) < (↑l.length : Int)) = false →
 (decide (cntP (List.take x l) < (1 : Int)) = true →
 ((!op == [(99 : UInt8), (111 : UInt8), (117 : UInt8), (110 : UInt8), (116 : UInt8)]) = true →
 ((!op == [(100 : UInt8), (105 : UInt8), (115 : UInt8), (116 : UInt8), (105 : UInt8), (110 : UInt8), (99 : UInt8), (116 : UInt8)]) =
 true →
 RetIs (AV.agg [AV.int IntKind.i64 (0 : Int), AV.int IntKind.i64 (0 : Int), AV.str []]) [] (r, [])) ∧
 ((!op == [(100 : UInt8), (105 : UInt8), (115 : UInt8), (116 : UInt8), (105 : UInt8), (110 : UInt8), (99 : UInt8), (116 : UInt8)]) =
 false →
 ∃ (n : Int),
 ∃ (n_1 : Int),
 ∃ (s : List UInt8),
 CallIs
 (tbl [((40 : Nat), s24), ((103 : Nat), s43)] ((103 : Nat))
 [AV.agg [],
 AV.agg
 [AV.str op, AV.int IntKind.i64 param, AV.int IntKind.i64 kind, AV.int IntKind.i64 t,
 AV.int IntKind.i64 (cntP (List.take x l)), AV.sl ((6 : Nat)) (cesL l) Own.no]])
 (AV.agg [AV.int IntKind.i64 n, AV.int IntKind.i64 n_1, AV.str s]) [] ∧
 RetIs (AV.agg [AV.int IntKind.i64 n, AV.int IntKind.i64 n_1, AV.str s]) [] (r, []))) ∧
 ((!op == [(99 : UInt8), (111 : UInt8), (117 : UInt8), (110 : UInt8), (116 : UInt8)]) = false →
 ∃ (n : Int),
 ∃ (n_1 : Int),
 ∃ (s : List UInt8),
 CallIs
 (tbl [((40 : Nat), s24), ((103 : Nat), s43)] ((103 : Nat))
 [AV.agg [],
 AV.agg
 [AV.str op, AV.int IntKind.i64 param, AV.int IntKind.i64 kind, AV.int IntKind.i64 t,
 AV.int IntKind.i64 (cntP (List.take x l)), AV.sl ((6 : Nat)) (cesL l) Own.no]])
 (AV.agg [AV.int IntKind.i64 n, AV.int IntKind.i64 n_1, AV.str s]) [] ∧
 RetIs (AV.agg [AV.int IntKind.i64 n, AV.int IntKind.i64 n_1, AV.str s]) [] (r, []))) ∧
 (decide (cntP (List.take x l) < (1 : Int)) = false →
 ∃ (n : Int),
 ∃ (n_1 : Int),
 ∃ (s : List UInt8),
 CallIs
 (tbl [((40 : Nat), s24), ((103 : Nat), s43)] ((103 : Nat))
 [AV.agg [],
 AV.agg
 [AV.str op, AV.int IntKind.i64 param, AV.int IntKind.i64 kind, AV.int IntKind.i64 t,
 AV.int IntKind.i64 (cntP (List.take x l)), AV.sl ((6 : Nat)) (cesL l) Own.no]])
 (AV.agg [AV.int IntKind.i64 n, AV.int IntKind.i64 n_1, AV.str s]) [] ∧
 RetIs (AV.agg [AV.int IntKind.i64 n, AV.int IntKind.i64 n_1, AV.str s]) [] (r, [])))) ∧
    (true = false →
      (∃ (y : Nat),
 ValsAre
 [AV.agg
 [AV.int IntKind.i64 k0, AV.str op, AV.str [], AV.str [], AV.int IntKind.i64 (0 : Int), AV.int IntKind.i64 (0 : Int), AV.str [],
 AV.sl ((0 : Nat)) [] Own.nil, AV.int IntKind.i64 param, AV.int IntKind.i64 (0 : Int), AV.int IntKind.i64 (0 : Int),
 AV.sl ((0 : Nat)) [] Own.nil],
 AV.int IntKind.i64 kind, AV.sl ((6 : Nat)) (cesL l) Own.no, AV.int IntKind.i64 t, AV.ptr ((0 : Nat)) ((0 : Nat)),
 AV.ptr ((1 : Nat)) ((0 : Nat)), AV.lit (Value.iface (101 : TypeId) (Value.agg #[])), AV.bool false, AV.ptr ((2 : Nat)) ((0 : Nat)),
 AV.sl ((6 : Nat)) (cesL l) Own.no, AV.int IntKind.i64 (↑(cesL l).length : Int), AV.int IntKind.i64 (0 : Int)]
 [AV.agg
 [AV.int IntKind.i64 k0, AV.str op, AV.str [], AV.str [], AV.int IntKind.i64 (0 : Int), AV.int IntKind.i64 (0 : Int), AV.str [],
 AV.sl ((0 : Nat)) [] Own.nil, AV.int IntKind.i64 param, AV.int IntKind.i64 (0 : Int), AV.int IntKind.i64 (0 : Int),
 AV.sl ((0 : Nat)) [] Own.nil],
 AV.int IntKind.i64 kind, AV.sl ((6 : Nat)) (cesL l) Own.no, AV.int IntKind.i64 t, AV.ptr ((0 : Nat)) ((0 : Nat)),
 AV.ptr ((1 : Nat)) ((0 : Nat)), AV.lit (Value.iface (101 : TypeId) (Value.agg #[])), AV.bool true, AV.ptr ((2 : Nat)) ((0 : Nat)),
 AV.sl ((6 : Nat)) (cesL l) Own.no, AV.int IntKind.i64 (↑l.length : Int), AV.int IntKind.i64 (↑y : Int)] ∧
 StIs
 { boxes := [some [AV.int IntKind.i64 k0, AV.str op, AV.str [], AV.str [], AV.int IntKind.i64 (0 : Int), AV.int IntKind.i64 (0 : Int), AV.str [], AV.sl ((0 : Nat)) [] Own.nil, AV.int IntKind.i64 param, AV.int IntKind.i64 (0 : Int), AV.int IntKind.i64 (0 : Int), AV.sl ((0 : Nat)) [] Own.nil], some [AV.int IntKind.i64 (0 : Int), AV.int IntKind.i64 (0 : Int), AV.str []], some [AV.str op, AV.int IntKind.i64 param, AV.int IntKind.i64 kind, AV.int IntKind.i64 t, AV.int IntKind.i64 (0 : Int), AV.sl ((6 : Nat)) (cesL l) Own.no]], live := [] }
 { boxes := [some [AV.int IntKind.i64 k0, AV.str op, AV.str [], AV.str [], AV.int IntKind.i64 (0 : Int), AV.int IntKind.i64 (0 : Int), AV.str [], AV.sl ((0 : Nat)) [] Own.nil, AV.int IntKind.i64 param, AV.int IntKind.i64 (0 : Int), AV.int IntKind.i64 (0 : Int), AV.sl ((0 : Nat)) [] Own.nil], some [AV.int IntKind.i64 (0 : Int), AV.int IntKind.i64 (0 : Int), AV.str []], some [AV.str op, AV.int IntKind.i64 param, AV.int IntKind.i64 kind, AV.int IntKind.i64 t, AV.int IntKind.i64 (cntP (List.take y l)), AV.sl ((6 : Nat)) (cesL l) Own.no]], live := [] } ∧
 y ≤ l.length ∧ True) ∧
        ∀ (x : Nat),
 x ≤ l.length →
 (decide ((↑x : Int) < (↑l.length : Int)) = true →
 ((0 : Int) ≤ (↑x : Int) ∧ (↑x : Int) < (↑(cesL l).length : Int)) ∧
 ∃ (n : Int),
 ∃ (n_1 : Int),
 ∃ (n_2 : Int),
 ∃ (n_3 : Int),
 ∃ (es : List AV),
 ∃ (es_1 : List AV),
 takeAt PA ((42 : Nat)) (cesL l) (↑x : Int).toNat ((0 : Nat)) =
 some
 (AV.agg
 [AV.int IntKind.i64 n, AV.int IntKind.i64 n_1, AV.int IntKind.i64 n_2, AV.int IntKind.u64 n_3,
 AV.sl ((6 : Nat)) es Own.no, AV.sl ((2 : Nat)) es_1 Own.no]) ∧
 ∃ (y : Nat),
 ValsAre
 [AV.agg
 [AV.int IntKind.i64 k0, AV.str op, AV.str [], AV.str [], AV.int IntKind.i64 (0 : Int), AV.int IntKind.i64 (0 : Int),
 AV.str [], AV.sl ((0 : Nat)) [] Own.nil, AV.int IntKind.i64 param, AV.int IntKind.i64 (0 : Int),
 AV.int IntKind.i64 (0 : Int), AV.sl ((0 : Nat)) [] Own.nil],
 AV.int IntKind.i64 kind, AV.sl ((6 : Nat)) (cesL l) Own.no, AV.int IntKind.i64 t, AV.ptr ((0 : Nat)) ((0 : Nat)),
 AV.ptr ((1 : Nat)) ((0 : Nat)), AV.lit (Value.iface (101 : TypeId) (Value.agg #[])), AV.bool true,
 AV.ptr ((2 : Nat)) ((0 : Nat)), AV.sl ((6 : Nat)) (cesL l) Own.no, AV.int IntKind.i64 (↑l.length : Int),
 AV.int IntKind.i64 (IntKind.i64.wrap ((↑x : Int) + (1 : Int)))]
 [AV.agg
 [AV.int IntKind.i64 k0, AV.str op, AV.str [], AV.str [], AV.int IntKind.i64 (0 : Int), AV.int IntKind.i64 (0 : Int),
 AV.str [], AV.sl ((0 : Nat)) [] Own.nil, AV.int IntKind.i64 param, AV.int IntKind.i64 (0 : Int),
 AV.int IntKind.i64 (0 : Int), AV.sl ((0 : Nat)) [] Own.nil],
 AV.int IntKind.i64 kind, AV.sl ((6 : Nat)) (cesL l) Own.no, AV.int IntKind.i64 t, AV.ptr ((0 : Nat)) ((0 : Nat)),
 AV.ptr ((1 : Nat)) ((0 : Nat)), AV.lit (Value.iface (101 : TypeId) (Value.agg #[])), AV.bool true,
 AV.ptr ((2 : Nat)) ((0 : Nat)), AV.sl ((6 : Nat)) (cesL l) Own.no, AV.int IntKind.i64 (↑l.length : Int),
 AV.int IntKind.i64 (↑y : Int)] ∧
 StIs
 { boxes := [some [AV.int IntKind.i64 k0, AV.str op, AV.str [], AV.str [], AV.int IntKind.i64 (0 : Int), AV.int IntKind.i64 (0 : Int), AV.str [], AV.sl ((0 : Nat)) [] Own.nil, AV.int IntKind.i64 param, AV.int IntKind.i64 (0 : Int), AV.int IntKind.i64 (0 : Int), AV.sl ((0 : Nat)) [] Own.nil], some [AV.int IntKind.i64 (0 : Int), AV.int IntKind.i64 (0 : Int), AV.str []], some [AV.str op, AV.int IntKind.i64 param, AV.int IntKind.i64 kind, AV.int IntKind.i64 t, AV.int IntKind.i64 (IntKind.i64.wrap (cntP (List.take x l) + n_1)), AV.sl ((6 : Nat)) (cesL l) Own.no]], live := [] }
 { boxes := [some [AV.int IntKind.i64 k0, AV.str op, AV.str [], AV.str [], AV.int IntKind.i64 (0 : Int), AV.int IntKind.i64 (0 : Int), AV.str [], AV.sl ((0 : Nat)) [] Own.nil, AV.int IntKind.i64 param, AV.int IntKind.i64 (0 : Int), AV.int IntKind.i64 (0 : Int), AV.sl ((0 : Nat)) [] Own.nil], some [AV.int IntKind.i64 (0 : Int), AV.int IntKind.i64 (0 : Int), AV.str []], some [AV.str op, AV.int IntKind.i64 param, AV.int IntKind.i64 kind, AV.int IntKind.i64 t, AV.int IntKind.i64 (cntP (List.take y l)), AV.sl ((6 : Nat)) (cesL l) Own.no]], live := [] } ∧
 y ≤ l.length ∧ l.length - y < l.length - x) ∧
 (decide ((↑x : Int) < (↑l.length : Int)) = false →
 (decide (cntP (List.take x l) < (1 : Int)) = true →
 ((!op == [(99 : UInt8), (111 : UInt8), (117 : UInt8), (110 : UInt8), (116 : UInt8)]) = true →
 ((!op == [(100 : UInt8), (105 : UInt8), (115 : UInt8), (116 : UInt8), (105 : UInt8), (110 : UInt8), (99 : UInt8), (116 : UInt8)]) =
 true →
 RetIs (AV.agg [AV.int IntKind.i64 (0 : Int), AV.int IntKind.i64 (0 : Int), AV.str []]) [] (r, [])) ∧
 ((!op == [(100 : UInt8), (105 : UInt8), (115 : UInt8), (116 : UInt8), (105 : UInt8), (110 : UInt8), (99 : UInt8), (116 : UInt8)]) =
 false →
 ∃ (n : Int),
 ∃ (n_1 : Int),
 ∃ (s : List UInt8),
 CallIs
 (tbl [((40 : Nat), s24), ((103 : Nat), s43)] ((103 : Nat))
 [AV.agg [],
 AV.agg
 [AV.str op, AV.int IntKind.i64 param, AV.int IntKind.i64 kind, AV.int IntKind.i64 t,
 AV.int IntKind.i64 (cntP (List.take x l)), AV.sl ((6 : Nat)) (cesL l) Own.no]])
 (AV.agg [AV.int IntKind.i64 n, AV.int IntKind.i64 n_1, AV.str s]) [] ∧
 RetIs (AV.agg [AV.int IntKind.i64 n, AV.int IntKind.i64 n_1, AV.str s]) [] (r, []))) ∧
 ((!op == [(99 : UInt8), (111 : UInt8), (117 : UInt8), (110 : UInt8), (116 : UInt8)]) = false →
 ∃ (n : Int),
 ∃ (n_1 : Int),
 ∃ (s : List UInt8),
 CallIs
 (tbl [((40 : Nat), s24), ((103 : Nat), s43)] ((103 : Nat))
 [AV.agg [],
 AV.agg
 [AV.str op, AV.int IntKind.i64 param, AV.int IntKind.i64 kind, AV.int IntKind.i64 t,
 AV.int IntKind.i64 (cntP (List.take x l)), AV.sl ((6 : Nat)) (cesL l) Own.no]])
 (AV.agg [AV.int IntKind.i64 n, AV.int IntKind.i64 n_1, AV.str s]) [] ∧
 RetIs (AV.agg [AV.int IntKind.i64 n, AV.int IntKind.i64 n_1, AV.str s]) [] (r, []))) ∧
 (decide (cntP (List.take x l) < (1 : Int)) = false →
 ∃ (n : Int),
 ∃ (n_1 : Int),
 ∃ (s : List UInt8),
 CallIs
 (tbl [((40 : Nat), s24), ((103 : Nat), s43)] ((103 : Nat))
 [AV.agg [],
 AV.agg
 [AV.str op, AV.int IntKind.i64 param, AV.int IntKind.i64 kind, AV.int IntKind.i64 t,
 AV.int IntKind.i64 (cntP (List.take x l)), AV.sl ((6 : Nat)) (cesL l) Own.no]])
 (AV.agg [AV.int IntKind.i64 n, AV.int IntKind.i64 n_1, AV.str s]) [] ∧
 RetIs (AV.agg [AV.int IntKind.i64 n, AV.int IntKind.i64 n_1, AV.str s]) [] (r, []))))) := by kernel_rfl
theorem w18S (k0 : Int) (op : List UInt8) (param kind t : Int) (l : List CeI) (r : AV) : (pureW PA GA (XR (some .sum)) (tbl [(40, s24), (106, s46)]) (itbl []) (a18 k0 op param kind t l (.lit (.iface 103 (.agg #[]))) true) [] 9 [.agg (exC k0 op param), .int .i64 kind, .sl 6 (cesL l) .no, .int .i64 t] (r, [])) =
(CallIs (some (famR (famO op), [])) (AV.tup [AV.lit (Value.iface (103 : TypeId) (Value.agg #[])), AV.bool true]) [] ∧
  (true = true →
      (∃ (y : Nat),
 ValsAre
 [AV.agg
 [AV.int IntKind.i64 k0, AV.str op, AV.str [], AV.str [], AV.int IntKind.i64 (0 : Int), AV.int IntKind.i64 (0 : Int), AV.str [],
 AV.sl ((0 : Nat)) [] Own.nil, AV.int IntKind.i64 param, AV.int IntKind.i64 (0 : Int), AV.int IntKind.i64 (0 : Int),
 AV.sl ((0 : Nat)) [] Own.nil],
 AV.int IntKind.i64 kind, AV.sl ((6 : Nat)) (cesL l) Own.no, AV.int IntKind.i64 t, AV.ptr ((0 : Nat)) ((0 : Nat)),
 AV.ptr ((1 : Nat)) ((0 : Nat)), AV.lit (Value.iface (103 : TypeId) (Value.agg #[])), AV.bool true, AV.ptr ((2 : Nat)) ((0 : Nat)),
 AV.sl ((6 : Nat)) (cesL l) Own.no, AV.int IntKind.i64 (↑(cesL l).length : Int), AV.int IntKind.i64 (0 : Int)]
 [AV.agg
 [AV.int IntKind.i64 k0, AV.str op, AV.str [], AV.str [], AV.int IntKind.i64 (0 : Int), AV.int IntKind.i64 (0 : Int), AV.str [],
 AV.sl ((0 : Nat)) [] Own.nil, AV.int IntKind.i64 param, AV.int IntKind.i64 (0 : Int), AV.int IntKind.i64 (0 : Int),
 AV.sl ((0 : Nat)) [] Own.nil],
 AV.int IntKind.i64 kind, AV.sl ((6 : Nat)) (cesL l) Own.no, AV.int IntKind.i64 t, AV.ptr ((0 : Nat)) ((0 : Nat)),
 AV.ptr ((1 : Nat)) ((0 : Nat)), AV.lit (Value.iface (103 : TypeId) (Value.agg #[])), AV.bool true, AV.ptr ((2 : Nat)) ((0 : Nat)),
 AV.sl ((6 : Nat)) (cesL l) Own.no, AV.int IntKind.i64 (↑l.length : Int), AV.int IntKind.i64 (↑y : Int)] ∧
 StIs
 { boxes := [some [AV.int IntKind.i64 k0, AV.str op, AV.str [], AV.str [], AV.int IntKind.i64 (0 : Int), AV.int IntKind.i64 (0 : Int), AV.str [], AV.sl ((0 : Nat)) [] Own.nil, AV.int IntKind.i64 param, AV.int IntKind.i64 (0 : Int), AV.int IntKind.i64 (0 : Int), AV.sl ((0 : Nat)) [] Own.nil], some [AV.int IntKind.i64 (0 : Int), AV.int IntKind.i64 (0 : Int), AV.str []], some [AV.str op, AV.int IntKind.i64 param, AV.int IntKind.i64 kind, AV.int IntKind.i64 t, AV.int IntKind.i64 (0 : Int), AV.sl ((6 : Nat)) (cesL l) Own.no]], live := [] }
 { boxes := [some [AV.int IntKind.i64 k0, AV.str op, AV.str [], AV.str [], AV.int IntKind.i64 (0 : Int), AV.int IntKind.i64 (0 : Int), AV.str [], AV.sl ((0 : Nat)) [] Own.nil, AV.int IntKind.i64 param, AV.int IntKind.i64 (0 : Int), AV.int IntKind.i64 (0 : Int), AV.sl ((0 : Nat)) [] Own.nil], some [AV.int IntKind.i64 (0 : Int), AV.int IntKind.i64 (0 : Int), AV.str []], some [AV.str op, AV.int IntKind.i64 param, AV.int IntKind.i64 kind, AV.int IntKind.i64 t, AV.int IntKind.i64 (cntP (List.take y l)), AV.sl ((6 : Nat)) (cesL l) Own.no]], live := [] } ∧
 y ≤ l.length ∧ True) ∧
        ∀ (x : Nat),
 x ≤ l.length →
 (decide ((↑x : Int) < (↑l.length : Int)) = true →
 ((0 : Int) ≤ (↑x : Int) ∧ (↑x : Int) < (↑(cesL l).length : Int)) ∧
 ∃ (n : Int),
 ∃ (n_1 : Int),
 ∃ (n_2 : Int),
 ∃ (n_3 : Int),
 ∃ (es : List AV),
 ∃ (es_1 : List AV),
 takeAt PA ((42 : Nat)) (cesL l) (↑x : Int).toNat ((0 : Nat)) =
 some
 (AV.agg
 [AV.int IntKind.i64 n, AV.int IntKind.i64 n_1, AV.int IntKind.i64 n_2, AV.int IntKind.u64 n_3,
 AV.sl ((6 : Nat)) es Own.no, AV.sl ((2 : Nat)) es_1 Own.no]) ∧
 ∃ (y : Nat),
 ValsAre
 [AV.agg
 [AV.int IntKind.i64 k0, AV.str op, AV.str [], AV.str [], AV.int IntKind.i64 (0 : Int), AV.int IntKind.i64 (0 : Int),
 AV.str [], AV.sl ((0 : Nat)) [] Own.nil, AV.int IntKind.i64 param, AV.int IntKind.i64 (0 : Int),
 AV.int IntKind.i64 (0 : Int), AV.sl ((0 : Nat)) [] Own.nil],
 AV.int IntKind.i64 kind, AV.sl ((6 : Nat)) (cesL l) Own.no, AV.int IntKind.i64 t, AV.ptr ((0 : Nat)) ((0 : Nat)),
 AV.ptr ((1 : Nat)) ((0 : Nat)), AV.lit (Value.iface (103 : TypeId) (Value.agg #[])), AV.bool true,
 AV.ptr ((2 : Nat)) ((0 : Nat)), AV.sl ((6 : Nat)) (cesL l) Own.no, AV.int IntKind.i64 (↑l.length : Int),
 AV.int IntKind.i64 (IntKind.i64.wrap ((↑x : Int) + (1 : Int)))]
 [AV.agg
 [AV.int IntKind.i64 k0, AV.str op, AV.str [], AV.str [], AV.int IntKind.i64 (0 : Int), AV.int IntKind.i64 (0 : Int),
 AV.str [], AV.sl ((0 : Nat)) [] Own.nil, AV.int IntKind.i64 param, AV.int IntKind.i64 (0 : Int),
 AV.int IntKind.i64 (0 : Int), AV.sl ((0 : Nat)) [] Own.nil],
 AV.int IntKind.i64 kind, AV.sl ((6 : Nat)) (cesL l) Own.no, AV.int IntKind.i64 t, AV.ptr ((0 : Nat)) ((0 : Nat)),
 AV.ptr ((1 : Nat)) ((0 : Nat)), AV.lit (Value.iface (103 : TypeId) (Value.agg #[])), AV.bool true,
 AV.ptr ((2 : Nat)) ((0 : Nat)), AV.sl ((6 : Nat)) (cesL l) Own.no, AV.int IntKind.i64 (↑l.length : Int),
 AV.int IntKind.i64 (↑y : Int)] ∧
 StIs
 { boxes := [some [AV.int IntKind.i64 k0, AV.str op, AV.str [], AV.str [], AV.int IntKind.i64 (0 : Int), AV.int IntKind.i64 (0 : Int), AV.str [], AV.sl ((0 : Nat)) [] Own.nil, AV.int IntKind.i64 param, AV.int IntKind.i64 (0 : Int), AV.int IntKind.i64 (0 : Int), AV.sl ((0 : Nat)) [] Own.nil], some [AV.int IntKind.i64 (0 : Int), AV.int IntKind.i64 (0 : Int), AV.str []], some [AV.str op, AV.int IntKind.i64 param, AV.int IntKind.i64 kind, AV.int IntKind.i64 t, AV.int IntKind.i64 (IntKind.i64.wrap (cntP (List.take x l) + n_1)), AV.sl ((6 : Nat)) (cesL l) Own.no]], live := [] }
 { boxes := [some [AV.int IntKind.i64 k0, AV.str op, AV.str [], AV.str [], AV.int IntKind.i64 (0 : Int), AV.int IntKind.i64 (0 : Int), AV.str [], AV.sl ((0 : Nat)) [] Own.nil, AV.int IntKind.i64 param, AV.int IntKind.i64 (0 : Int), AV.int IntKind.i64 (0 : Int), AV.sl ((0 : Nat)) [] Own.nil], some [AV.int IntKind.i64 (0 : Int), AV.int IntKind.i64 (0 : Int), AV.str []], some [AV.str op, AV.int IntKind.i64 param, AV.int IntKind.i64 kind, AV.int IntKind.i64 t, AV.int IntKind.i64 (cntP (List.take y l)), AV.sl ((6 : Nat)) (cesL l) Own.no]], live := [] } ∧
 y ≤ l.length ∧ l.length - y < l.length - x) ∧
 (decide ((↑x : Int) < (↑l.length : Int)) = false →
 (decide (cntP (List.take x l) < (1 : Int)) = true →
 ((!op == [(99 : UInt8), (111 : UInt8), (117 : UInt8), (110 : UInt8), (116 : UInt8)]) = true →
 ((!op == [(100 : UInt8), (105 : UInt8), (115 : UInt8), (116 : UInt8), (105 : UInt8), (110 : UInt8), (99 : UInt8), (116 : UInt8)]) =
 true →
 RetIs (AV.agg [AV.int IntKind.i64 (0 : Int), AV.int IntKind.i64 (0 : Int), AV.str []]) [] (r, [])) ∧
 ((!op == [(100 : UInt8), (105 : UInt8), (115 : UInt8), (116 : UInt8), (105 : UInt8), (110 : UInt8), (99 : UInt8), (116 : UInt8)]) =
 false →
 ∃ (n : Int),
 ∃ (n_1 : Int),
 ∃ (s : List UInt8),
 CallIs
 (tbl [((40 : Nat), s24), ((106 : Nat), s46)] ((106 : Nat))
 [AV.agg [],
 AV.agg
 [AV.str op, AV.int IntKind.i64 param, AV.int IntKind.i64 kind, AV.int IntKind.i64 t,
 AV.int IntKind.i64 (cntP (List.take x l)), AV.sl ((6 : Nat)) (cesL l) Own.no]])
 (AV.agg [AV.int IntKind.i64 n, AV.int IntKind.i64 n_1, AV.str s]) [] ∧
 RetIs (AV.agg [AV.int IntKind.i64 n, AV.int IntKind.i64 n_1, AV.str s]) [] (r, []))) ∧
 ((!op == [(99 : UInt8), (111 : UInt8), (117 : UInt8), (110 : UInt8), (116 : UInt8)]) = false →
 ∃ (n : Int),
 ∃ (n_1 : Int),
 ∃ (s : List UInt8),
 CallIs
 (tbl [((40 : Nat), s24), ((106 : Nat), s46)] ((106 : Nat))
 [AV.agg [],
 AV.agg
 [AV.str op, AV.int IntKind.i64 param, AV.int IntKind.i64 kind, AV.int IntKind.i64 t,
 AV.int IntKind.i64 (cntP (List.take x l)), AV.sl ((6 : Nat)) (cesL l) Own.no]])
 (AV.agg [AV.int IntKind.i64 n, AV.int IntKind.i64 n_1, AV.str s]) [] ∧
 RetIs (AV.agg [AV.int IntKind.i64 n, AV.int IntKind.i64 n_1, AV.str s]) [] (r, []))) ∧
 (decide (cntP (List.take x l) < (1 : Int)) = false →
 ∃ (n : Int),
 ∃ (n_1 : Int),
 ∃ (s : List UInt8),
 CallIs
 (tbl [((40 : Nat), s24), ((106 : Nat), s46)] ((106 : Nat))
 [AV.agg [],
 AV.agg
 [AV.str op, AV.int IntKind.i64 param, AV.int IntKind.i64 kind, AV.int IntKind.i64 t,
 AV.int IntKind.i64 (cntP (List.take x l)), AV.sl ((6 : Nat)) (cesL l) Own.no]])
 (AV.agg [AV.int IntKind.i64 n, AV.int IntKind.i64 n_1, AV.str s]) [] ∧
 RetIs (AV.agg [AV.int IntKind.i64 n, AV.int IntKind.i64 n_1, AV.str s]) [] (r, [])))) ∧
    (true = false →
      (∃ (y : Nat),
 ValsAre
 [AV.agg
 [AV.int IntKind.i64 k0, AV.str op, AV.str [], AV.str [], AV.int IntKind.i64 (0 : Int), AV.int IntKind.i64 (0 : Int), AV.str [],
 AV.sl ((0 : Nat)) [] Own.nil, AV.int IntKind.i64 param, AV.int IntKind.i64 (0 : Int), AV.int IntKind.i64 (0 : Int),
 AV.sl ((0 : Nat)) [] Own.nil],
 AV.int IntKind.i64 kind, AV.sl ((6 : Nat)) (cesL l) Own.no, AV.int IntKind.i64 t, AV.ptr ((0 : Nat)) ((0 : Nat)),
 AV.ptr ((1 : Nat)) ((0 : Nat)), AV.lit (Value.iface (103 : TypeId) (Value.agg #[])), AV.bool false, AV.ptr ((2 : Nat)) ((0 : Nat)),
 AV.sl ((6 : Nat)) (cesL l) Own.no, AV.int IntKind.i64 (↑(cesL l).length : Int), AV.int IntKind.i64 (0 : Int)]
 [AV.agg
 [AV.int IntKind.i64 k0, AV.str op, AV.str [], AV.str [], AV.int IntKind.i64 (0 : Int), AV.int IntKind.i64 (0 : Int), AV.str [],
 AV.sl ((0 : Nat)) [] Own.nil, AV.int IntKind.i64 param, AV.int IntKind.i64 (0 : Int), AV.int IntKind.i64 (0 : Int),
 AV.sl ((0 : Nat)) [] Own.nil],
 AV.int IntKind.i64 kind, AV.sl ((6 : Nat)) (cesL l) Own.no, AV.int IntKind.i64 t, AV.ptr ((0 : Nat)) ((0 : Nat)),
 AV.ptr ((1 : Nat)) ((0 : Nat)), AV.lit (Value.iface (103 : TypeId) (Value.agg #[])), AV.bool true, AV.ptr ((2 : Nat)) ((0 : Nat)),
 AV.sl ((6 : Nat)) (cesL l) Own.no, AV.int IntKind.i64 (↑l.length : Int), AV.int IntKind.i64 (↑y : Int)] ∧
 StIs
 { boxes := [some [AV.int IntKind.i64 k0, AV.str op, AV.str [], AV.str [], AV.int IntKind.i64 (0 : Int), AV.int IntKind.i64 (0 : Int), AV.str [], AV.sl ((0 : Nat)) [] Own.nil, AV.int IntKind.i64 param, AV.int IntKind.i64 (0 : Int), AV.int IntKind.i64 (0 : Int), AV.sl ((0 : Nat)) [] Own.nil], some [AV.int IntKind.i64 (0 : Int), AV.int IntKind.i64 (0 : Int), AV.str []], some [AV.str op, AV.int IntKind.i64 param, AV.int IntKind.i64 kind, AV.int IntKind.i64 t, AV.int IntKind.i64 (0 : Int), AV.sl ((6 : Nat)) (cesL l) Own.no]], live := [] }
 { boxes := [some [AV.int IntKind.i64 k0, AV.str op, AV.str [], AV.str [], AV.int IntKind.i64 (0 : Int), AV.int IntKind.i64 (0 : Int), AV.str [], AV.sl ((0 : Nat)) [] Own.nil, AV.int IntKind.i64 param, AV.int IntKind.i64 (0 : Int), AV.int IntKind.i64 (0 : Int), AV.sl ((0 : Nat)) [] Own.nil], some [AV.int IntKind.i64 (0 : Int), AV.int IntKind.i64 (0 : Int), AV.str []], some [AV.str op, AV.int IntKind.i64 param, AV.int IntKind.i64 kind, AV.int IntKind.i64 t, AV.int IntKind.i64 (cntP (List.take y l)), AV.sl ((6 : Nat)) (cesL l) Own.no]], live := [] } ∧
 y ≤ l.length ∧ True) ∧
        ∀ (x : Nat),
 x ≤ l.length →
 (decide ((↑x : Int) < (↑l.length : Int)) = true →
 ((0 : Int) ≤ (↑x : Int) ∧ (↑x : Int) < (↑(cesL l).length : Int)) ∧
 ∃ (n : Int),
 ∃ (n_1 : Int),
 ∃ (n_2 : Int),
 ∃ (n_3 : Int),
 ∃ (es : List AV),
 ∃ (es_1 : List AV),
 takeAt PA ((42 : Nat)) (cesL l) (↑x : Int).toNat ((0 : Nat)) =
 some
 (AV.agg
 [AV.int IntKind.i64 n, AV.int IntKind.i64 n_1, AV.int IntKind.i64 n_2, AV.int IntKind.u64 n_3,
 AV.sl ((6 : Nat)) es Own.no, AV.sl ((2 : Nat)) es_1 Own.no]) ∧
 ∃ (y : Nat),
 ValsAre
 [AV.agg
 [AV.int IntKind.i64 k0, AV.str op, AV.str [], AV.str [], AV.int IntKind.i64 (0 : Int), AV.int IntKind.i64 (0 : Int),
 AV.str [], AV.sl ((0 : Nat)) [] Own.nil, AV.int IntKind.i64 param, AV.int IntKind.i64 (0 : Int),
 AV.int IntKind.i64 (0 : Int), AV.sl ((0 : Nat)) [] Own.nil],
 AV.int IntKind.i64 kind, AV.sl ((6 : Nat)) (cesL l) Own.no, AV.int IntKind.i64 t, AV.ptr ((0 : Nat)) ((0 : Nat)),
 AV.ptr ((1 : Nat)) ((0 : Nat)), AV.lit (Value.iface (103 : TypeId) (Value.agg #[])), AV.bool true,
 AV.ptr ((2 : Nat)) ((0 : Nat)), AV.sl ((6 : Nat)) (cesL l) Own.no, AV.int IntKind.i64 (↑l.length : Int),
 AV.int IntKind.i64 (IntKind.i64.wrap ((↑x : Int) + (1 : Int)))]
 [AV.agg
 [AV.int IntKind.i64 k0, AV.str op, AV.str [], AV.str [], AV.int IntKind.i64 (0 : Int), AV.int IntKind.i64 (0 : Int),
 AV.str [], AV.sl ((0 : Nat)) [] Own.nil, AV.int IntKind.i64 param, AV.int IntKind.i64 (0 : Int),
 AV.int IntKind.i64 (0 : Int), AV.sl ((0 : Nat)) [] Own.nil],
 AV.int IntKind.i64 kind, AV.sl ((6 : Nat)) (cesL l) Own.no, AV.int IntKind.i64 t, AV.ptr ((0 : Nat)) ((0 : Nat)),
 AV.ptr ((1 : Nat)) ((0 : Nat)), AV.lit (Value.iface (103 : TypeId) (Value.agg #[])), AV.bool true,
 AV.ptr ((2 : Nat)) ((0 : Nat)), AV.sl ((6 : Nat)) (cesL l) Own.no, AV.int IntKind.i64 (↑l.length : Int),
 AV.int IntKind.i64 (↑y : Int)] ∧
 StIs
 { boxes := [some [AV.int IntKind.i64 k0, AV.str op, AV.str [], AV.str [], AV.int IntKind.i64 (0 : Int), AV.int IntKind.i64 (0 : Int), AV.str [], AV.sl ((0 : Nat)) [] Own.nil, AV.int IntKind.i64 param, AV.int IntKind.i64 (0 : Int), AV.int IntKind.i64 (0 : Int), AV.sl ((0 : Nat)) [] Own.nil], some [AV.int IntKind.i64 (0 : Int), AV.int IntKind.i64 (0 : Int), AV.str []], some [AV.str op, AV.int IntKind.i64 param, AV.int IntKind.i64 kind, AV.int IntKind.i64 t, AV.int IntKind.i64 (IntKind.i64.wrap (cntP (List.take x l) + n_1)), AV.sl ((6 : Nat)) (cesL l) Own.no]], live := [] }
 { boxes := [some [AV.int IntKind.i64 k0, AV.str op, AV.str [], AV.str [], AV.int IntKind.i64 (0 : Int), AV.int IntKind.i64 (0 : Int), AV.str [], AV.sl ((0 : Nat)) [] Own.nil, AV.int IntKind.i64 param, AV.int IntKind.i64 (0 : Int), AV.int IntKind.i64 (0 : Int), AV.sl ((0 : Nat)) [] Own.nil], some [AV.int IntKind.i64 (0 : Int), AV.int IntKind.i64 (0 : Int), AV.str []], some [AV.str op, AV.int IntKind.i64 param, AV.int IntKind.i64 kind, AV.int IntKind.i64 t, AV.int IntKind.i64 (cntP (List.take y l)), AV.sl ((6 : Nat)) (cesL l) Own.no]], live := [] } ∧
 y ≤ l.length ∧ l.length - y < l.length - x) ∧
 (decide ((↑x : Int) < (↑l.length : Int)) = false →
 (decide (cntP (List.take x l) < (1 : Int)) = true →
 ((!op == [(99 : UInt8), (111 : UInt8), (117 : UInt8), (110 : UInt8), (116 : UInt8)]) = true →
 ((!op == [(100 : UInt8), (105 : UInt8), (115 : UInt8), (116 : UInt8), (105 : UInt8), (110 : UInt8), (99 : UInt8), (116 : UInt8)]) =
 true →
 RetIs (AV.agg [AV.int IntKind.i64 (0 : Int), AV.int IntKind.i64 (0 : Int), AV.str []]) [] (r, [])) ∧
 ((!op == [(100 : UInt8), (105 : UInt8), (115 : UInt8), (116 : UInt8), (105 : UInt8), (110 : UInt8), (99 : UInt8), (116 : UInt8)]) =
 false →
 ∃ (n : Int),
 ∃ (n_1 : Int),
 ∃ (s : List UInt8),
 CallIs
 (tbl [((40 : Nat), s24), ((106 : Nat), s46)] ((106 : Nat))
 [AV.agg [],
 AV.agg
 [AV.str op, AV.int IntKind.i64 param, AV.int IntKind.i64 kind, AV.int IntKind.i64 t,
 AV.int IntKind.i64 (cntP (List.take x l)), AV.sl ((6 : Nat)) (cesL l) Own.no]])
 (AV.agg [AV.int IntKind.i64 n, AV.int IntKind.i64 n_1, AV.str s]) [] ∧
 RetIs (AV.agg [AV.int IntKind.i64 n, AV.int IntKind.i64 n_1, AV.str s]) [] (r, []))) ∧
 ((!op == [(99 : UInt8), (111 : UInt8), (117 : UInt8), (110 : UInt8), (116 : UInt8)]) = false →
 ∃ (n : Int),
 ∃ (n_1 : Int),
 ∃ (s : List UInt8),
 CallIs
 (tbl [((40 : Nat), s24), ((106 : Nat), s46)] ((106 : Nat))
 [AV.agg [],
 AV.agg
 [AV.str op, AV.int IntKind.i64 param, AV.int IntKind.i64 kind, AV.int IntKind.i64 t,
 AV.int IntKind.i64 (cntP (List.take x l)), AV.sl ((6 : Nat)) (cesL l) Own.no]])
 (AV.agg [AV.int IntKind.i64 n, AV.int IntKind.i64 n_1, AV.str s]) [] ∧
 RetIs (AV.agg [AV.int IntKind.i64 n, AV.int IntKind.i64 n_1, AV.str s]) [] (r, []))) ∧
 (decide (cntP (List.take x l) < (1 : Int)) = false →
 ∃ (n : Int),
 ∃ (n_1 : Int),
 ∃ (s : List UInt8),
 CallIs
 (tbl [((40 : Nat), s24), ((106 : Nat), s46)] ((106 : Nat))
 [AV.agg [],
 AV.agg
 [AV.str op, AV.int IntKind.i64 param, AV.int IntKind.i64 kind, AV.int IntKind.i64 t,
 AV.int IntKind.i64 (cntP (List.take x l)), AV.sl ((6 : Nat)) (cesL l) Own.no]])
 (AV.agg [AV.int IntKind.i64 n, AV.int IntKind.i64 n_1, AV.str s]) [] ∧
 RetIs (AV.agg [AV.int IntKind.i64 n, AV.int IntKind.i64 n_1, AV.str s]) [] (r, []))))) := by kernel_rfl
theorem w18Q (k0 : Int) (op : List UInt8) (param kind t : Int) (l : List CeI) (r : AV) : (pureW PA GA (XR (some .smp)) (tbl [(40, s24), (111, s65)]) (itbl []) (a18 k0 op param kind t l (.lit (.iface 104 (.agg #[]))) true) [] 9 [.agg (exC k0 op param), .int .i64 kind, .sl 6 (cesL l) .no, .int .i64 t] (r, [])) =
(CallIs (some (famR (famO op), [])) (AV.tup [AV.lit (Value.iface (104 : TypeId) (Value.agg #[])), AV.bool true]) [] ∧
  (true = true →
      (∃ (y : Nat),
 ValsAre
 [AV.agg
 [AV.int IntKind.i64 k0, AV.str op, AV.str [], AV.str [], AV.int IntKind.i64 (0 : Int), AV.int IntKind.i64 (0 : Int), AV.str [],
 AV.sl ((0 : Nat)) [] Own.nil, AV.int IntKind.i64 param, AV.int IntKind.i64 (0 : Int), AV.int IntKind.i64 (0 : Int),
 AV.sl ((0 : Nat)) [] Own.nil],
 AV.int IntKind.i64 kind, AV.sl ((6 : Nat)) (cesL l) Own.no, AV.int IntKind.i64 t, AV.ptr ((0 : Nat)) ((0 : Nat)),
 AV.ptr ((1 : Nat)) ((0 : Nat)), AV.lit (Value.iface (104 : TypeId) (Value.agg #[])), AV.bool true, AV.ptr ((2 : Nat)) ((0 : Nat)),
 AV.sl ((6 : Nat)) (cesL l) Own.no, AV.int IntKind.i64 (↑(cesL l).length : Int), AV.int IntKind.i64 (0 : Int)]
 [AV.agg
 [AV.int IntKind.i64 k0, AV.str op, AV.str [], AV.str [], AV.int IntKind.i64 (0 : Int), AV.int IntKind.i64 (0 : Int), AV.str [],
 AV.sl ((0 : Nat)) [] Own.nil, AV.int IntKind.i64 param, AV.int IntKind.i64 (0 : Int), AV.int IntKind.i64 (0 : Int),
 AV.sl ((0 : Nat)) [] Own.nil],
 AV.int IntKind.i64 kind, AV.sl ((6 : Nat)) (cesL l) Own.no, AV.int IntKind.i64 t, AV.ptr ((0 : Nat)) ((0 : Nat)),
 AV.ptr ((1 : Nat)) ((0 : Nat)), AV.lit (Value.iface (104 : TypeId) (Value.agg #[])), AV.bool true, AV.ptr ((2 : Nat)) ((0 : Nat)),
 AV.sl ((6 : Nat)) (cesL l) Own.no, AV.int IntKind.i64 (↑l.length : Int), AV.int IntKind.i64 (↑y : Int)] ∧
 StIs
 { boxes := [some [AV.int IntKind.i64 k0, AV.str op, AV.str [], AV.str [], AV.int IntKind.i64 (0 : Int), AV.int IntKind.i64 (0 : Int), AV.str [], AV.sl ((0 : Nat)) [] Own.nil, AV.int IntKind.i64 param, AV.int IntKind.i64 (0 : Int), AV.int IntKind.i64 (0 : Int), AV.sl ((0 : Nat)) [] Own.nil], some [AV.int IntKind.i64 (0 : Int), AV.int IntKind.i64 (0 : Int), AV.str []], some [AV.str op, AV.int IntKind.i64 param, AV.int IntKind.i64 kind, AV.int IntKind.i64 t, AV.int IntKind.i64 (0 : Int), AV.sl ((6 : Nat)) (cesL l) Own.no]], live := [] }
 { boxes := [some [AV.int IntKind.i64 k0, AV.str op, AV.str [], AV.str [], AV.int IntKind.i64 (0 : Int), AV.int IntKind.i64 (0 : Int), AV.str [], AV.sl ((0 : Nat)) [] Own.nil, AV.int IntKind.i64 param, AV.int IntKind.i64 (0 : Int), AV.int IntKind.i64 (0 : Int), AV.sl ((0 : Nat)) [] Own.nil], some [AV.int IntKind.i64 (0 : Int), AV.int IntKind.i64 (0 : Int), AV.str []], some [AV.str op, AV.int IntKind.i64 param, AV.int IntKind.i64 kind, AV.int IntKind.i64 t, AV.int IntKind.i64 (cntP (List.take y l)), AV.sl ((6 : Nat)) (cesL l) Own.no]], live := [] } ∧
 y ≤ l.length ∧ True) ∧
        ∀ (x : Nat),
 x ≤ l.length →
 (decide ((↑x : Int) < (↑l.length : Int)) = true →
 ((0 : Int) ≤ (↑x : Int) ∧ (↑x : Int) < (↑(cesL l).length : Int)) ∧
 ∃ (n : Int),
 ∃ (n_1 : Int),
 ∃ (n_2 : Int),
 ∃ (n_3 : Int),
 ∃ (es : List AV),
 ∃ (es_1 : List AV),
 takeAt PA ((42 : Nat)) (cesL l) (↑x : Int).toNat ((0 : Nat)) =
 some
 (AV.agg
 [AV.int IntKind.i64 n, AV.int IntKind.i64 n_1, AV.int IntKind.i64 n_2, AV.int IntKind.u64 n_3,
 AV.sl ((6 : Nat)) es Own.no, AV.sl ((2 : Nat)) es_1 Own.no]) ∧
 ∃ (y : Nat),
 ValsAre
 [AV.agg
 [AV.int IntKind.i64 k0, AV.str op, AV.str [], AV.str [], AV.int IntKind.i64 (0 : Int), AV.int IntKind.i64 (0 : Int),
 AV.str [], AV.sl ((0 : Nat)) [] Own.nil, AV.int IntKind.i64 param, AV.int IntKind.i64 (0 : Int),
 AV.int IntKind.i64 (0 : Int), AV.sl ((0 : Nat)) [] Own.nil],
 AV.int IntKind.i64 kind, AV.sl ((6 : Nat)) (cesL l) Own.no, AV.int IntKind.i64 t, AV.ptr ((0 : Nat)) ((0 : Nat)),
 AV.ptr ((1 : Nat)) ((0 : Nat)), AV.lit (Value.iface (104 : TypeId) (Value.agg #[])), AV.bool true,
 AV.ptr ((2 : Nat)) ((0 : Nat)), AV.sl ((6 : Nat)) (cesL l) Own.no, AV.int IntKind.i64 (↑l.length : Int),
 AV.int IntKind.i64 (IntKind.i64.wrap ((↑x : Int) + (1 : Int)))]
 [AV.agg
 [AV.int IntKind.i64 k0, AV.str op, AV.str [], AV.str [], AV.int IntKind.i64 (0 : Int), AV.int IntKind.i64 (0 : Int),
 AV.str [], AV.sl ((0 : Nat)) [] Own.nil, AV.int IntKind.i64 param, AV.int IntKind.i64 (0 : Int),
 AV.int IntKind.i64 (0 : Int), AV.sl ((0 : Nat)) [] Own.nil],
 AV.int IntKind.i64 kind, AV.sl ((6 : Nat)) (cesL l) Own.no, AV.int IntKind.i64 t, AV.ptr ((0 : Nat)) ((0 : Nat)),
 AV.ptr ((1 : Nat)) ((0 : Nat)), AV.lit (Value.iface (104 : TypeId) (Value.agg #[])), AV.bool true,
 AV.ptr ((2 : Nat)) ((0 : Nat)), AV.sl ((6 : Nat)) (cesL l) Own.no, AV.int IntKind.i64 (↑l.length : Int),
 AV.int IntKind.i64 (↑y : Int)] ∧
 StIs
 { boxes := [some [AV.int IntKind.i64 k0, AV.str op, AV.str [], AV.str [], AV.int IntKind.i64 (0 : Int), AV.int IntKind.i64 (0 : Int), AV.str [], AV.sl ((0 : Nat)) [] Own.nil, AV.int IntKind.i64 param, AV.int IntKind.i64 (0 : Int), AV.int IntKind.i64 (0 : Int), AV.sl ((0 : Nat)) [] Own.nil], some [AV.int IntKind.i64 (0 : Int), AV.int IntKind.i64 (0 : Int), AV.str []], some [AV.str op, AV.int IntKind.i64 param, AV.int IntKind.i64 kind, AV.int IntKind.i64 t, AV.int IntKind.i64 (IntKind.i64.wrap (cntP (List.take x l) + n_1)), AV.sl ((6 : Nat)) (cesL l) Own.no]], live := [] }
 { boxes := [some [AV.int IntKind.i64 k0, AV.str op, AV.str [], AV.str [], AV.int IntKind.i64 (0 : Int), AV.int IntKind.i64 (0 : Int), AV.str [], AV.sl ((0 : Nat)) [] Own.nil, AV.int IntKind.i64 param, AV.int IntKind.i64 (0 : Int), AV.int IntKind.i64 (0 : Int), AV.sl ((0 : Nat)) [] Own.nil], some [AV.int IntKind.i64 (0 : Int), AV.int IntKind.i64 (0 : Int), AV.str []], some [AV.str op, AV.int IntKind.i64 param, AV.int IntKind.i64 kind, AV.int IntKind.i64 t, AV.int IntKind.i64 (cntP (List.take y l)), AV.sl ((6 : Nat)) (cesL l) Own.no]], live := [] } ∧
 y ≤ l.length ∧ l.length - y < l.length - x) ∧
 (decide ((↑x : Int) < (↑l.length : Int)) = false →
 (decide (cntP (List.take x l) < (1 : Int)) = true →
 ((!op == [(99 : UInt8), (111 : UInt8), (117 : UInt8), (110 : UInt8), (116 : UInt8)]) = true →
 ((!op == [(100 : UInt8), (105 : UInt8), (115 : UInt8), (116 : UInt8), (105 : UInt8), (110 : UInt8), (99 : UInt8), (116 : UInt8)]) =
 true →
 RetIs (AV.agg [AV.int IntKind.i64 (0 : Int), AV.int IntKind.i64 (0 : Int), AV.str []]) [] (r, [])) ∧
 ((!op == [(100 : UInt8), (105 : UInt8), (115 : UInt8), (116 : UInt8), (105 : UInt8), (110 : UInt8), (99 : UInt8), (116 : UInt8)]) =
 false →
 ∃ (n : Int),
 ∃ (n_1 : Int),
 ∃ (s : List UInt8),
 CallIs
 (tbl [((40 : Nat), s24), ((111 : Nat), s65)] ((111 : Nat))
 [AV.agg [],
 AV.agg
 [AV.str op, AV.int IntKind.i64 param, AV.int IntKind.i64 kind, AV.int IntKind.i64 t,
 AV.int IntKind.i64 (cntP (List.take x l)), AV.sl ((6 : Nat)) (cesL l) Own.no]])
 (AV.agg [AV.int IntKind.i64 n, AV.int IntKind.i64 n_1, AV.str s]) [] ∧
 RetIs (AV.agg [AV.int IntKind.i64 n, AV.int IntKind.i64 n_1, AV.str s]) [] (r, []))) ∧
 ((!op == [(99 : UInt8), (111 : UInt8), (117 : UInt8), (110 : UInt8), (116 : UInt8)]) = false →
 ∃ (n : Int),
 ∃ (n_1 : Int),
 ∃ (s : List UInt8),
 CallIs
 (tbl [((40 : Nat), s24), ((111 : Nat), s65)] ((111 : Nat))
 [AV.agg [],
 AV.agg
 [AV.str op, AV.int IntKind.i64 param, AV.int IntKind.i64 kind, AV.int IntKind.i64 t,
 AV.int IntKind.i64 (cntP (List.take x l)), AV.sl ((6 : Nat)) (cesL l) Own.no]])
 (AV.agg [AV.int IntKind.i64 n, AV.int IntKind.i64 n_1, AV.str s]) [] ∧
 RetIs (AV.agg [AV.int IntKind.i64 n, AV.int IntKind.i64 n_1, AV.str s]) [] (r, []))) ∧
 (decide (cntP (List.take x l) < (1 : Int)) = false →
 ∃ (n : Int),
 ∃ (n_1 : Int),
 ∃ (s : List UInt8),
 CallIs
 (tbl [((40 : Nat), s24), ((111 : Nat), s65)] ((111 : Nat))
 [AV.agg [],
 AV.agg
 [AV.str op, AV.int IntKind.i64 param, AV.int IntKind.i64 kind, AV.int IntKind.i64 t,
 AV.int IntKind.i64 (cntP (List.take x l)), AV.sl ((6 : Nat)) (cesL l) Own.no]])
 (AV.agg [AV.int IntKind.i64 n, AV.int IntKind.i64 n_1, AV.str s]) [] ∧
 RetIs (AV.agg [AV.int IntKind.i64 n, AV.int IntKind.i64 n_1, AV.str s]) [] (r, [])))) ∧
    (true = false →
      (∃ (y : Nat),
 ValsAre
 [AV.agg
 [AV.int IntKind.i64 k0, AV.str op, AV.str [], AV.str [], AV.int IntKind.i64 (0 : Int), AV.int IntKind.i64 (0 : Int), AV.str [],
 AV.sl ((0 : Nat)) [] Own.nil, AV.int IntKind.i64 param, AV.int IntKind.i64 (0 : Int), AV.int IntKind.i64 (0 : Int),
 AV.sl ((0 : Nat)) [] Own.nil],
 AV.int IntKind.i64 kind, AV.sl ((6 : Nat)) (cesL l) Own.no, AV.int IntKind.i64 t, AV.ptr ((0 : Nat)) ((0 : Nat)),
 AV.ptr ((1 : Nat)) ((0 : Nat)), AV.lit (Value.iface (104 : TypeId) (Value.agg #[])), AV.bool false, AV.ptr ((2 : Nat)) ((0 : Nat)),
 AV.sl ((6 : Nat)) (cesL l) Own.no, AV.int IntKind.i64 (↑(cesL l).length : Int), AV.int IntKind.i64 (0 : Int)]
 [AV.agg
 [AV.int IntKind.i64 k0, AV.str op, AV.str [], AV.str [], AV.int IntKind.i64 (0 : Int), AV.int IntKind.i64 (0 : Int), AV.str [],
 AV.sl ((0 : Nat)) [] Own.nil, AV.int IntKind.i64 param, AV.int IntKind.i64 (0 : Int), AV.int IntKind.i64 (0 : Int),
 AV.sl ((0 : Nat)) [] Own.nil],
 AV.int IntKind.i64 kind, AV.sl ((6 : Nat)) (cesL l) Own.no, AV.int IntKind.i64 t, AV.ptr ((0 : Nat)) ((0 : Nat)),
 AV.ptr ((1 : Nat)) ((0 : Nat)), AV.lit (Value.iface (104 : TypeId) (Value.agg #[])), AV.bool true, AV.ptr ((2 : Nat)) ((0 : Nat)),
 AV.sl ((6 : Nat)) (cesL l) Own.no, AV.int IntKind.i64 (↑l.length : Int), AV.int IntKind.i64 (↑y : Int)] ∧
 StIs
 { boxes := [some [AV.int IntKind.i64 k0, AV.str op, AV.str [], AV.str [], AV.int IntKind.i64 (0 : Int), AV.int IntKind.i64 (0 : Int), AV.str [], AV.sl ((0 : Nat)) [] Own.nil, AV.int IntKind.i64 param, AV.int IntKind.i64 (0 : Int), AV.int IntKind.i64 (0 : Int), AV.sl ((0 : Nat)) [] Own.nil], some [AV.int IntKind.i64 (0 : Int), AV.int IntKind.i64 (0 : Int), AV.str []], some [AV.str op, AV.int IntKind.i64 param, AV.int IntKind.i64 kind, AV.int IntKind.i64 t, AV.int IntKind.i64 (0 : Int), AV.sl ((6 : Nat)) (cesL l) Own.no]], live := [] }
 { boxes := [some [AV.int IntKind.i64 k0, AV.str op, AV.str [], AV.str [], AV.int IntKind.i64 (0 : Int), AV.int IntKind.i64 (0 : Int), AV.str [], AV.sl ((0 : Nat)) [] Own.nil, AV.int IntKind.i64 param, AV.int IntKind.i64 (0 : Int), AV.int IntKind.i64 (0 : Int), AV.sl ((0 : Nat)) [] Own.nil], some [AV.int IntKind.i64 (0 : Int), AV.int IntKind.i64 (0 : Int), AV.str []], some [AV.str op, AV.int IntKind.i64 param, AV.int IntKind.i64 kind, AV.int IntKind.i64 t, AV.int IntKind.i64 (cntP (List.take y l)), AV.sl ((6 : Nat)) (cesL l) Own.no]], live := [] } ∧
 y ≤ l.length ∧ True) ∧
        ∀ (x : Nat),
 x ≤ l.length →
 (decide ((↑x : Int) < (↑l.length : Int)) = true →
 ((0 : Int) ≤ (↑x : Int) ∧ (↑x : Int) < (↑(cesL l).length : Int)) ∧
 ∃ (n : Int),
 ∃ (n_1 : Int),
 ∃ (n_2 : Int),
 ∃ (n_3 : Int),
 ∃ (es : List AV),
 ∃ (es_1 : List AV),
 takeAt PA ((42 : Nat)) (cesL l) (↑x : Int).toNat ((0 : Nat)) =
 some
 (AV.agg
 [AV.int IntKind.i64 n, AV.int IntKind.i64 n_1, AV.int IntKind.i64 n_2, AV.int IntKind.u64 n_3,
 AV.sl ((6 : Nat)) es Own.no, AV.sl ((2 : Nat)) es_1 Own.no]) ∧
 ∃ (y : Nat),
 ValsAre
 [AV.agg
 [AV.int IntKind.i64 k0, AV.str op, AV.str [], AV.str [], AV.int IntKind.i64 (0 : Int), AV.int IntKind.i64 (0 : Int),
 AV.str [], AV.sl ((0 : Nat)) [] Own.nil, AV.int IntKind.i64 param, AV.int IntKind.i64 (0 : Int),
 AV.int IntKind.i64 (0 : Int), AV.sl ((0 : Nat)) [] Own.nil],
 AV.int IntKind.i64 kind, AV.sl ((6 : Nat)) (cesL l) Own.no, AV.int IntKind.i64 t, AV.ptr ((0 : Nat)) ((0 : Nat)),
 AV.ptr ((1 : Nat)) ((0 : Nat)), AV.lit (Value.iface (104 : TypeId) (Value.agg #[])), AV.bool true,
 AV.ptr ((2 : Nat)) ((0 : Nat)), AV.sl ((6 : Nat)) (cesL l) Own.no, AV.int IntKind.i64 (↑l.length : Int),
 AV.int IntKind.i64 (IntKind.i64.wrap ((↑x : Int) + (1 : Int)))]
 [AV.agg
 [AV.int IntKind.i64 k0, AV.str op, AV.str [], AV.str [], AV.int IntKind.i64 (0 : Int), AV.int IntKind.i64 (0 : Int),
 AV.str [], AV.sl ((0 : Nat)) [] Own.nil, AV.int IntKind.i64 param, AV.int IntKind.i64 (0 : Int),
 AV.int IntKind.i64 (0 : Int), AV.sl ((0 : Nat)) [] Own.nil],
 AV.int IntKind.i64 kind, AV.sl ((6 : Nat)) (cesL l) Own.no, AV.int IntKind.i64 t, AV.ptr ((0 : Nat)) ((0 : Nat)),
 AV.ptr ((1 : Nat)) ((0 : Nat)), AV.lit (Value.iface (104 : TypeId) (Value.agg #[])), AV.bool true,
 AV.ptr ((2 : Nat)) ((0 : Nat)), AV.sl ((6 : Nat)) (cesL l) Own.no, AV.int IntKind.i64 (↑l.length : Int),
 AV.int IntKind.i64 (↑y : Int)] ∧
 StIs
 { boxes := [some [AV.int IntKind.i64 k0, AV.str op, AV.str [], AV.str [], AV.int IntKind.i64 (0 : Int), AV.int IntKind.i64 (0 : Int), AV.str [], AV.sl ((0 : Nat)) [] Own.nil, AV.int IntKind.i64 param, AV.int IntKind.i64 (0 : Int), AV.int IntKind.i64 (0 : Int), AV.sl ((0 : Nat)) [] Own.nil], some [AV.int IntKind.i64 (0 : Int), AV.int IntKind.i64 (0 : Int), AV.str []], some [AV.str op, AV.int IntKind.i64 param, AV.int IntKind.i64 kind, AV.int IntKind.i64 t, AV.int IntKind.i64 (IntKind.i64.wrap (cntP (List.take x l) + n_1)), AV.sl ((6 : Nat)) (cesL l) Own.no]], live := [] }
 { boxes := [some [AV.int IntKind.i64 k0, AV.str op, AV.str [], AV.str [], AV.int IntKind.i64 (0 : Int), AV.int IntKind.i64 (0 : Int), AV.str [], AV.sl ((0 : Nat)) [] Own.nil, AV.int IntKind.i64 param, AV.int IntKind.i64 (0 : Int), AV.int IntKind.i64 (0 : Int), AV.sl ((0 : Nat)) [] Own.nil], some [AV.int IntKind.i64 (0 : Int), AV.int IntKind.i64 (0 : Int), AV.str []], some [AV.str op, AV.int IntKind.i64 param, AV.int IntKind.i64 kind, AV.int IntKind.i64 t, AV.int IntKind.i64 (cntP (List.take y l)), AV.sl ((6 : Nat)) (cesL l) Own.no]], live := [] } ∧
 y ≤ l.length ∧ l.length - y < l.length - x) ∧
 (decide ((↑x : Int) < (↑l.length : Int)) = false →
 (decide (cntP (List.take x l) < (1 : Int)) = true →
 ((!op == [(99 : UInt8), (111 : UInt8), (117 : UInt8), (110 : UInt8), (116 : UInt8)]) = true →
 ((!op == [(100 : UInt8), (105 : UInt8), (115 : UInt8), (116 : UInt8), (105 : UInt8), (110 : UInt8), (99 : UInt8), (116 : UInt8)]) =
 true →
 RetIs (AV.agg [AV.int IntKind.i64 (0 : Int), AV.int IntKind.i64 (0 : Int), AV.str []]) [] (r, [])) ∧
 ((!op == [(100 : UInt8), (105 : UInt8), (115 : UInt8), (116 : UInt8), (105 : UInt8), (110 : UInt8), (99 : UInt8), (116 : UInt8)]) =
 false →
 ∃ (n : Int),
 ∃ (n_1 : Int),
 ∃ (s : List UInt8),
 CallIs
 (tbl [((40 : Nat), s24), ((111 : Nat), s65)] ((111 : Nat))
 [AV.agg [],
 AV.agg
 [AV.str op, AV.int IntKind.i64 param, AV.int IntKind.i64 kind, AV.int IntKind.i64 t,
 AV.int IntKind.i64 (cntP (List.take x l)), AV.sl ((6 : Nat)) (cesL l) Own.no]])
 (AV.agg [AV.int IntKind.i64 n, AV.int IntKind.i64 n_1, AV.str s]) [] ∧
 RetIs (AV.agg [AV.int IntKind.i64 n, AV.int IntKind.i64 n_1, AV.str s]) [] (r, []))) ∧
 ((!op == [(99 : UInt8), (111 : UInt8), (117 : UInt8), (110 : UInt8), (116 : UInt8)]) = false →
 ∃ (n : Int),
 ∃ (n_1 : Int),
 ∃ (s : List UInt8),
 CallIs
 (tbl [((40 : Nat), s24), ((111 : Nat), s65)] ((111 : Nat))
 [AV.agg [],
 AV.agg
 [AV.str op, AV.int IntKind.i64 param, AV.int IntKind.i64 kind, AV.int IntKind.i64 t,
 AV.int IntKind.i64 (cntP (List.take x l)), AV.sl ((6 : Nat)) (cesL l) Own.no]])
 (AV.agg [AV.int IntKind.i64 n, AV.int IntKind.i64 n_1, AV.str s]) [] ∧
 RetIs (AV.agg [AV.int IntKind.i64 n, AV.int IntKind.i64 n_1, AV.str s]) [] (r, []))) ∧
 (decide (cntP (List.take x l) < (1 : Int)) = false →
 ∃ (n : Int),
 ∃ (n_1 : Int),
 ∃ (s : List UInt8),
 CallIs
 (tbl [((40 : Nat), s24), ((111 : Nat), s65)] ((111 : Nat))
 [AV.agg [],
 AV.agg
 [AV.str op, AV.int IntKind.i64 param, AV.int IntKind.i64 kind, AV.int IntKind.i64 t,
 AV.int IntKind.i64 (cntP (List.take x l)), AV.sl ((6 : Nat)) (cesL l) Own.no]])
 (AV.agg [AV.int IntKind.i64 n, AV.int IntKind.i64 n_1, AV.str s]) [] ∧
 RetIs (AV.agg [AV.int IntKind.i64 n, AV.int IntKind.i64 n_1, AV.str s]) [] (r, []))))) := by kernel_rfl
theorem w18K (k0 : Int) (op : List UInt8) (param kind t : Int) (l : List CeI) (r : AV) : (pureW PA GA (XR (some (.keep false))) (tbl [(40, s24), (146, s101)]) (itbl []) (a18 k0 op param kind t l (.lit (.iface 106 (.agg #[.bool false]))) true) [] 9 [.agg (exC k0 op param), .int .i64 kind, .sl 6 (cesL l) .no, .int .i64 t] (r, [])) =
(CallIs (some (famR (famO op), [])) (AV.tup [AV.lit (Value.iface (106 : TypeId) (Value.agg #[Value.bool false])), AV.bool true]) [] ∧
  (true = true →
      (∃ (y : Nat),
 ValsAre
 [AV.agg
 [AV.int IntKind.i64 k0, AV.str op, AV.str [], AV.str [], AV.int IntKind.i64 (0 : Int), AV.int IntKind.i64 (0 : Int), AV.str [],
 AV.sl ((0 : Nat)) [] Own.nil, AV.int IntKind.i64 param, AV.int IntKind.i64 (0 : Int), AV.int IntKind.i64 (0 : Int),
 AV.sl ((0 : Nat)) [] Own.nil],
 AV.int IntKind.i64 kind, AV.sl ((6 : Nat)) (cesL l) Own.no, AV.int IntKind.i64 t, AV.ptr ((0 : Nat)) ((0 : Nat)),
 AV.ptr ((1 : Nat)) ((0 : Nat)), AV.lit (Value.iface (106 : TypeId) (Value.agg #[Value.bool false])), AV.bool true,
 AV.ptr ((2 : Nat)) ((0 : Nat)), AV.sl ((6 : Nat)) (cesL l) Own.no, AV.int IntKind.i64 (↑(cesL l).length : Int), AV.int IntKind.i64 (0 : Int)]
 [AV.agg
 [AV.int IntKind.i64 k0, AV.str op, AV.str [], AV.str [], AV.int IntKind.i64 (0 : Int), AV.int IntKind.i64 (0 : Int), AV.str [],
 AV.sl ((0 : Nat)) [] Own.nil, AV.int IntKind.i64 param, AV.int IntKind.i64 (0 : Int), AV.int IntKind.i64 (0 : Int),
 AV.sl ((0 : Nat)) [] Own.nil],
 AV.int IntKind.i64 kind, AV.sl ((6 : Nat)) (cesL l) Own.no, AV.int IntKind.i64 t, AV.ptr ((0 : Nat)) ((0 : Nat)),
 AV.ptr ((1 : Nat)) ((0 : Nat)), AV.lit (Value.iface (106 : TypeId) (Value.agg #[Value.bool false])), AV.bool true,
 AV.ptr ((2 : Nat)) ((0 : Nat)), AV.sl ((6 : Nat)) (cesL l) Own.no, AV.int IntKind.i64 (↑l.length : Int), AV.int IntKind.i64 (↑y : Int)] ∧
 StIs
 { boxes := [some [AV.int IntKind.i64 k0, AV.str op, AV.str [], AV.str [], AV.int IntKind.i64 (0 : Int), AV.int IntKind.i64 (0 : Int), AV.str [], AV.sl ((0 : Nat)) [] Own.nil, AV.int IntKind.i64 param, AV.int IntKind.i64 (0 : Int), AV.int IntKind.i64 (0 : Int), AV.sl ((0 : Nat)) [] Own.nil], some [AV.int IntKind.i64 (0 : Int), AV.int IntKind.i64 (0 : Int), AV.str []], some [AV.str op, AV.int IntKind.i64 param, AV.int IntKind.i64 kind, AV.int IntKind.i64 t, AV.int IntKind.i64 (0 : Int), AV.sl ((6 : Nat)) (cesL l) Own.no]], live := [] }
 { boxes := [some [AV.int IntKind.i64 k0, AV.str op, AV.str [], AV.str [], AV.int IntKind.i64 (0 : Int), AV.int IntKind.i64 (0 : Int), AV.str [], AV.sl ((0 : Nat)) [] Own.nil, AV.int IntKind.i64 param, AV.int IntKind.i64 (0 : Int), AV.int IntKind.i64 (0 : Int), AV.sl ((0 : Nat)) [] Own.nil], some [AV.int IntKind.i64 (0 : Int), AV.int IntKind.i64 (0 : Int), AV.str []], some [AV.str op, AV.int IntKind.i64 param, AV.int IntKind.i64 kind, AV.int IntKind.i64 t, AV.int IntKind.i64 (cntP (List.take y l)), AV.sl ((6 : Nat)) (cesL l) Own.no]], live := [] } ∧
 y ≤ l.length ∧ True) ∧
        ∀ (x : Nat),
 x ≤ l.length →
 (decide ((↑x : Int) < (↑l.length : Int)) = true →
 ((0 : Int) ≤ (↑x : Int) ∧ (↑x : Int) < (↑(cesL l).length : Int)) ∧
 ∃ (n : Int),
 ∃ (n_1 : Int),
 ∃ (n_2 : Int),
 ∃ (n_3 : Int),
 ∃ (es : List AV),
 ∃ (es_1 : List AV),
 takeAt PA ((42 : Nat)) (cesL l) (↑x : Int).toNat ((0 : Nat)) =
 some
 (AV.agg
 [AV.int IntKind.i64 n, AV.int IntKind.i64 n_1, AV.int IntKind.i64 n_2, AV.int IntKind.u64 n_3,
 AV.sl ((6 : Nat)) es Own.no, AV.sl ((2 : Nat)) es_1 Own.no]) ∧
 ∃ (y : Nat),
 ValsAre
 [AV.agg
 [AV.int IntKind.i64 k0, AV.str op, AV.str [], AV.str [], AV.int IntKind.i64 (0 : Int), AV.int IntKind.i64 (0 : Int),
 AV.str [], AV.sl ((0 : Nat)) [] Own.nil, AV.int IntKind.i64 param, AV.int IntKind.i64 (0 : Int),
 AV.int IntKind.i64 (0 : Int), AV.sl ((0 : Nat)) [] Own.nil],
 AV.int IntKind.i64 kind, AV.sl ((6 : Nat)) (cesL l) Own.no, AV.int IntKind.i64 t, AV.ptr ((0 : Nat)) ((0 : Nat)),
 AV.ptr ((1 : Nat)) ((0 : Nat)), AV.lit (Value.iface (106 : TypeId) (Value.agg #[Value.bool false])), AV.bool true,
 AV.ptr ((2 : Nat)) ((0 : Nat)), AV.sl ((6 : Nat)) (cesL l) Own.no, AV.int IntKind.i64 (↑l.length : Int),
 AV.int IntKind.i64 (IntKind.i64.wrap ((↑x : Int) + (1 : Int)))]
 [AV.agg
 [AV.int IntKind.i64 k0, AV.str op, AV.str [], AV.str [], AV.int IntKind.i64 (0 : Int), AV.int IntKind.i64 (0 : Int),
 AV.str [], AV.sl ((0 : Nat)) [] Own.nil, AV.int IntKind.i64 param, AV.int IntKind.i64 (0 : Int),
 AV.int IntKind.i64 (0 : Int), AV.sl ((0 : Nat)) [] Own.nil],
 AV.int IntKind.i64 kind, AV.sl ((6 : Nat)) (cesL l) Own.no, AV.int IntKind.i64 t, AV.ptr ((0 : Nat)) ((0 : Nat)),
 AV.ptr ((1 : Nat)) ((0 : Nat)), AV.lit (Value.iface (106 : TypeId) (Value.agg #[Value.bool false])), AV.bool true,
 AV.ptr ((2 : Nat)) ((0 : Nat)), AV.sl ((6 : Nat)) (cesL l) Own.no, AV.int IntKind.i64 (↑l.length : Int),
 AV.int IntKind.i64 (↑y : Int)] ∧
 StIs
 { boxes := [some [AV.int IntKind.i64 k0, AV.str op, AV.str [], AV.str [], AV.int IntKind.i64 (0 : Int), AV.int IntKind.i64 (0 : Int), AV.str [], AV.sl ((0 : Nat)) [] Own.nil, AV.int IntKind.i64 param, AV.int IntKind.i64 (0 : Int), AV.int IntKind.i64 (0 : Int), AV.sl ((0 : Nat)) [] Own.nil], some [AV.int IntKind.i64 (0 : Int), AV.int IntKind.i64 (0 : Int), AV.str []], some [AV.str op, AV.int IntKind.i64 param, AV.int IntKind.i64 kind, AV.int IntKind.i64 t, AV.int IntKind.i64 (IntKind.i64.wrap (cntP (List.take x l) + n_1)), AV.sl ((6 : Nat)) (cesL l) Own.no]], live := [] }
 { boxes := [some [AV.int IntKind.i64 k0, AV.str op, AV.str [], AV.str [], AV.int IntKind.i64 (0 : Int), AV.int IntKind.i64 (0 : Int), AV.str [], AV.sl ((0 : Nat)) [] Own.nil, AV.int IntKind.i64 param, AV.int IntKind.i64 (0 : Int), AV.int IntKind.i64 (0 : Int), AV.sl ((0 : Nat)) [] Own.nil], some [AV.int IntKind.i64 (0 : Int), AV.int IntKind.i64 (0 : Int), AV.str []], some [AV.str op, AV.int IntKind.i64 param, AV.int IntKind.i64 kind, AV.int IntKind.i64 t, AV.int IntKind.i64 (cntP (List.take y l)), AV.sl ((6 : Nat)) (cesL l) Own.no]], live := [] } ∧
 y ≤ l.length ∧ l.length - y < l.length - x) ∧
 (decide ((↑x : Int) < (↑l.length : Int)) = false →
 (decide (cntP (List.take x l) < (1 : Int)) = true →
 ((!op == [(99 : UInt8), (111 : UInt8), (117 : UInt8), (110 : UInt8), (116 : UInt8)]) = true →
 ((!op == [(100 : UInt8), (105 : UInt8), (115 : UInt8), (116 : UInt8), (105 : UInt8), (110 : UInt8), (99 : UInt8), (116 : UInt8)]) =
 true →
 RetIs (AV.agg [AV.int IntKind.i64 (0 : Int), AV.int IntKind.i64 (0 : Int), AV.str []]) [] (r, [])) ∧
 ((!op == [(100 : UInt8), (105 : UInt8), (115 : UInt8), (116 : UInt8), (105 : UInt8), (110 : UInt8), (99 : UInt8), (116 : UInt8)]) =
 false →
 ∃ (n : Int),
 ∃ (n_1 : Int),
 ∃ (s : List UInt8),
 CallIs
 (tbl [((40 : Nat), s24), ((146 : Nat), s101)] ((146 : Nat))
 [AV.agg [AV.bool false],
 AV.agg
 [AV.str op, AV.int IntKind.i64 param, AV.int IntKind.i64 kind, AV.int IntKind.i64 t,
 AV.int IntKind.i64 (cntP (List.take x l)), AV.sl ((6 : Nat)) (cesL l) Own.no]])
 (AV.agg [AV.int IntKind.i64 n, AV.int IntKind.i64 n_1, AV.str s]) [] ∧
 RetIs (AV.agg [AV.int IntKind.i64 n, AV.int IntKind.i64 n_1, AV.str s]) [] (r, []))) ∧
 ((!op == [(99 : UInt8), (111 : UInt8), (117 : UInt8), (110 : UInt8), (116 : UInt8)]) = false →
 ∃ (n : Int),
 ∃ (n_1 : Int),
 ∃ (s : List UInt8),
 CallIs
 (tbl [((40 : Nat), s24), ((146 : Nat), s101)] ((146 : Nat))
 [AV.agg [AV.bool false],
 AV.agg
 [AV.str op, AV.int IntKind.i64 param, AV.int IntKind.i64 kind, AV.int IntKind.i64 t,
 AV.int IntKind.i64 (cntP (List.take x l)), AV.sl ((6 : Nat)) (cesL l) Own.no]])
 (AV.agg [AV.int IntKind.i64 n, AV.int IntKind.i64 n_1, AV.str s]) [] ∧
 RetIs (AV.agg [AV.int IntKind.i64 n, AV.int IntKind.i64 n_1, AV.str s]) [] (r, []))) ∧
 (decide (cntP (List.take x l) < (1 : Int)) = false →
 ∃ (n : Int),
 ∃ (n_1 : Int),
 ∃ (s : List UInt8),
 CallIs
 (tbl [((40 : Nat), s24), ((146 : Nat), s101)] ((146 : Nat))
 [AV.agg [AV.bool false],
 AV.agg
 [AV.str op, AV.int IntKind.i64 param, AV.int IntKind.i64 kind, AV.int IntKind.i64 t,
 AV.int IntKind.i64 (cntP (List.take x l)), AV.sl ((6 : Nat)) (cesL l) Own.no]])
 (AV.agg [AV.int IntKind.i64 n, AV.int IntKind.i64 n_1, AV.str s]) [] ∧
 RetIs (AV.agg [AV.int IntKind.i64 n, AV.int IntKind.i64 n_1, AV.str s]) [] (r, [])))) ∧
    (true = false →
      (∃ (y : Nat),
 ValsAre
 [AV.agg
 [AV.int IntKind.i64 k0, AV.str op, AV.str [], AV.str [], AV.int IntKind.i64 (0 : Int), AV.int IntKind.i64 (0 : Int), AV.str [],
 AV.sl ((0 : Nat)) [] Own.nil, AV.int IntKind.i64 param, AV.int IntKind.i64 (0 : Int), AV.int IntKind.i64 (0 : Int),
 AV.sl ((0 : Nat)) [] Own.nil],
 AV.int IntKind.i64 kind, AV.sl ((6 : Nat)) (cesL l) Own.no, AV.int IntKind.i64 t, AV.ptr ((0 : Nat)) ((0 : Nat)),
 AV.ptr ((1 : Nat)) ((0 : Nat)), AV.lit (Value.iface (106 : TypeId) (Value.agg #[Value.bool false])), AV.bool false,
 AV.ptr ((2 : Nat)) ((0 : Nat)), AV.sl ((6 : Nat)) (cesL l) Own.no, AV.int IntKind.i64 (↑(cesL l).length : Int), AV.int IntKind.i64 (0 : Int)]
 [AV.agg
 [AV.int IntKind.i64 k0, AV.str op, AV.str [], AV.str [], AV.int IntKind.i64 (0 : Int), AV.int IntKind.i64 (0 : Int), AV.str [],
 AV.sl ((0 : Nat)) [] Own.nil, AV.int IntKind.i64 param, AV.int IntKind.i64 (0 : Int), AV.int IntKind.i64 (0 : Int),
 AV.sl ((0 : Nat)) [] Own.nil],
 AV.int IntKind.i64 kind, AV.sl ((6 : Nat)) (cesL l) Own.no, AV.int IntKind.i64 t, AV.ptr ((0 : Nat)) ((0 : Nat)),
 AV.ptr ((1 : Nat)) ((0 : Nat)), AV.lit (Value.iface (106 : TypeId) (Value.agg #[Value.bool false])), AV.bool true,
 AV.ptr ((2 : Nat)) ((0 : Nat)), AV.sl ((6 : Nat)) (cesL l) Own.no, AV.int IntKind.i64 (↑l.length : Int), AV.int IntKind.i64 (↑y : Int)] ∧
 StIs
 { boxes := [some [AV.int IntKind.i64 k0, AV.str op, AV.str [], AV.str [], AV.int IntKind.i64 (0 : Int), AV.int IntKind.i64 (0 : Int), AV.str [], AV.sl ((0 : Nat)) [] Own.nil, AV.int IntKind.i64 param, AV.int IntKind.i64 (0 : Int), AV.int IntKind.i64 (0 : Int), AV.sl ((0 : Nat)) [] Own.nil], some [AV.int IntKind.i64 (0 : Int), AV.int IntKind.i64 (0 : Int), AV.str []], some [AV.str op, AV.int IntKind.i64 param, AV.int IntKind.i64 kind, AV.int IntKind.i64 t, AV.int IntKind.i64 (0 : Int), AV.sl ((6 : Nat)) (cesL l) Own.no]], live := [] }
 { boxes := [some [AV.int IntKind.i64 k0, AV.str op, AV.str [], AV.str [], AV.int IntKind.i64 (0 : Int), AV.int IntKind.i64 (0 : Int), AV.str [], AV.sl ((0 : Nat)) [] Own.nil, AV.int IntKind.i64 param, AV.int IntKind.i64 (0 : Int), AV.int IntKind.i64 (0 : Int), AV.sl ((0 : Nat)) [] Own.nil], some [AV.int IntKind.i64 (0 : Int), AV.int IntKind.i64 (0 : Int), AV.str []], some [AV.str op, AV.int IntKind.i64 param, AV.int IntKind.i64 kind, AV.int IntKind.i64 t, AV.int IntKind.i64 (cntP (List.take y l)), AV.sl ((6 : Nat)) (cesL l) Own.no]], live := [] } ∧
 y ≤ l.length ∧ True) ∧
        ∀ (x : Nat),
 x ≤ l.length →
 (decide ((↑x : Int) < (↑l.length : Int)) = true →
 ((0 : Int) ≤ (↑x : Int) ∧ (↑x : Int) < (↑(cesL l).length : Int)) ∧
 ∃ (n : Int),
 ∃ (n_1 : Int),
 ∃ (n_2 : Int),
 ∃ (n_3 : Int),
 ∃ (es : List AV),
 ∃ (es_1 : List AV),
 takeAt PA ((42 : Nat)) (cesL l) (↑x : Int).toNat ((0 : Nat)) =
 some
 (AV.agg
 [AV.int IntKind.i64 n, AV.int IntKind.i64 n_1, AV.int IntKind.i64 n_2, AV.int IntKind.u64 n_3,
 AV.sl ((6 : Nat)) es Own.no, AV.sl ((2 : Nat)) es_1 Own.no]) ∧
 ∃ (y : Nat),
 ValsAre
 [AV.agg
 [AV.int IntKind.i64 k0, AV.str op, AV.str [], AV.str [], AV.int IntKind.i64 (0 : Int), AV.int IntKind.i64 (0 : Int),
 AV.str [], AV.sl ((0 : Nat)) [] Own.nil, AV.int IntKind.i64 param, AV.int IntKind.i64 (0 : Int),
 AV.int IntKind.i64 (0 : Int), AV.sl ((0 : Nat)) [] Own.nil],
 AV.int IntKind.i64 kind, AV.sl ((6 : Nat)) (cesL l) Own.no, AV.int IntKind.i64 t, AV.ptr ((0 : Nat)) ((0 : Nat)),
 AV.ptr ((1 : Nat)) ((0 : Nat)), AV.lit (Value.iface (106 : TypeId) (Value.agg #[Value.bool false])), AV.bool true,
 AV.ptr ((2 : Nat)) ((0 : Nat)), AV.sl ((6 : Nat)) (cesL l) Own.no, AV.int IntKind.i64 (↑l.length : Int),
 AV.int IntKind.i64 (IntKind.i64.wrap ((↑x : Int) + (1 : Int)))]
 [AV.agg
 [AV.int IntKind.i64 k0, AV.str op, AV.str [], AV.str [], AV.int IntKind.i64 (0 : Int), AV.int IntKind.i64 (0 : Int),
 AV.str [], AV.sl ((0 : Nat)) [] Own.nil, AV.int IntKind.i64 param, AV.int IntKind.i64 (0 : Int),
 AV.int IntKind.i64 (0 : Int), AV.sl ((0 : Nat)) [] Own.nil],
 AV.int IntKind.i64 kind, AV.sl ((6 : Nat)) (cesL l) Own.no, AV.int IntKind.i64 t, AV.ptr ((0 : Nat)) ((0 : Nat)),
 AV.ptr ((1 : Nat)) ((0 : Nat)), AV.lit (Value.iface (106 : TypeId) (Value.agg #[Value.bool false])), AV.bool true,
 AV.ptr ((2 : Nat)) ((0 : Nat)), AV.sl ((6 : Nat)) (cesL l) Own.no, AV.int IntKind.i64 (↑l.length : Int),
 AV.int IntKind.i64 (↑y : Int)] ∧
 StIs
 { boxes := [some [AV.int IntKind.i64 k0, AV.str op, AV.str [], AV.str [], AV.int IntKind.i64 (0 : Int), AV.int IntKind.i64 (0 : Int), AV.str [], AV.sl ((0 : Nat)) [] Own.nil, AV.int IntKind.i64 param, AV.int IntKind.i64 (0 : Int), AV.int IntKind.i64 (0 : Int), AV.sl ((0 : Nat)) [] Own.nil], some [AV.int IntKind.i64 (0 : Int), AV.int IntKind.i64 (0 : Int), AV.str []], some [AV.str op, AV.int IntKind.i64 param, AV.int IntKind.i64 kind, AV.int IntKind.i64 t, AV.int IntKind.i64 (IntKind.i64.wrap (cntP (List.take x l) + n_1)), AV.sl ((6 : Nat)) (cesL l) Own.no]], live := [] }
 { boxes := [some [AV.int IntKind.i64 k0, AV.str op, AV.str [], AV.str [], AV.int IntKind.i64 (0 : Int), AV.int IntKind.i64 (0 : Int), AV.str [], AV.sl ((0 : Nat)) [] Own.nil, AV.int IntKind.i64 param, AV.int IntKind.i64 (0 : Int), AV.int IntKind.i64 (0 : Int), AV.sl ((0 : Nat)) [] Own.nil], some [AV.int IntKind.i64 (0 : Int), AV.int IntKind.i64 (0 : Int), AV.str []], some [AV.str op, AV.int IntKind.i64 param, AV.int IntKind.i64 kind, AV.int IntKind.i64 t, AV.int IntKind.i64 (cntP (List.take y l)), AV.sl ((6 : Nat)) (cesL l) Own.no]], live := [] } ∧
 y ≤ l.length ∧ l.length - y < l.length - x) ∧
 (decide ((↑x : Int) < (↑l.length : Int)) = false →
 (decide (cntP (List.take x l) < (1 : Int)) = true →
 ((!op == [(99 : UInt8), (111 : UInt8), (117 : UInt8), (110 : UInt8), (116 : UInt8)]) = true →
 ((!op == [(100 : UInt8), (105 : UInt8), (115 : UInt8), (116 : UInt8), (105 : UInt8), (110 : UInt8), (99 : UInt8), (116 : UInt8)]) =
 true →
 RetIs (AV.agg [AV.int IntKind.i64 (0 : Int), AV.int IntKind.i64 (0 : Int), AV.str []]) [] (r, [])) ∧
 ((!op == [(100 : UInt8), (105 : UInt8), (115 : UInt8), (116 : UInt8), (105 : UInt8), (110 : UInt8), (99 : UInt8), (116 : UInt8)]) =
 false →
 ∃ (n : Int),
 ∃ (n_1 : Int),
 ∃ (s : List UInt8),
 CallIs
 (tbl [((40 : Nat), s24), ((146 : Nat), s101)] ((146 : Nat))
 [AV.agg [AV.bool false],
 AV.agg
 [AV.str op, AV.int IntKind.i64 param, AV.int IntKind.i64 kind, AV.int IntKind.i64 t,
 AV.int IntKind.i64 (cntP (List.take x l)), AV.sl ((6 : Nat)) (cesL l) Own.no]])
 (AV.agg [AV.int IntKind.i64 n, AV.int IntKind.i64 n_1, AV.str s]) [] ∧
 RetIs (AV.agg [AV.int IntKind.i64 n, AV.int IntKind.i64 n_1, AV.str s]) [] (r, []))) ∧
 ((!op == [(99 : UInt8), (111 : UInt8), (117 : UInt8), (110 : UInt8), (116 : UInt8)]) = false →
 ∃ (n : Int),
 ∃ (n_1 : Int),
 ∃ (s : List UInt8),
 CallIs
 (tbl [((40 : Nat), s24), ((146 : Nat), s101)] ((146 : Nat))
 [AV.agg [AV.bool false],
 AV.agg
 [AV.str op, AV.int IntKind.i64 param, AV.int IntKind.i64 kind, AV.int IntKind.i64 t,
 AV.int IntKind.i64 (cntP (List.take x l)), AV.sl ((6 : Nat)) (cesL l) Own.no]])
 (AV.agg [AV.int IntKind.i64 n, AV.int IntKind.i64 n_1, AV.str s]) [] ∧
 RetIs (AV.agg [AV.int IntKind.i64 n, AV.int IntKind.i64 n_1, AV.str s]) [] (r, []))) ∧
 (decide (cntP (List.take x l) < (1 : Int)) = false →
 ∃ (n : Int),
 ∃ (n_1 : Int),
 ∃ (s : List UInt8),
 CallIs
 (tbl [((40 : Nat), s24), ((146 : Nat), s101)] ((146 : Nat))
 [AV.agg [AV.bool false],
 AV.agg
 [AV.str op, AV.int IntKind.i64 param, AV.int IntKind.i64 kind, AV.int IntKind.i64 t,
 AV.int IntKind.i64 (cntP (List.take x l)), AV.sl ((6 : Nat)) (cesL l) Own.no]])
 (AV.agg [AV.int IntKind.i64 n, AV.int IntKind.i64 n_1, AV.str s]) [] ∧
 RetIs (AV.agg [AV.int IntKind.i64 n, AV.int IntKind.i64 n_1, AV.str s]) [] (r, []))))) := by kernel_rfl
theorem w18O (k0 : Int) (op : List UInt8) (param kind t : Int) (l : List CeI) (r : AV) : (pureW PA GA (XR (some (.keep true))) (tbl [(40, s24), (146, s101)]) (itbl []) (a18 k0 op param kind t l (.lit (.iface 106 (.agg #[.bool true]))) true) [] 9 [.agg (exC k0 op param), .int .i64 kind, .sl 6 (cesL l) .no, .int .i64 t] (r, [])) =
(CallIs (some (famR (famO op), [])) (AV.tup [AV.lit (Value.iface (106 : TypeId) (Value.agg #[Value.bool true])), AV.bool true]) [] ∧
  (true = true →
      (∃ (y : Nat),
 ValsAre
 [AV.agg
 [AV.int IntKind.i64 k0, AV.str op, AV.str [], AV.str [], AV.int IntKind.i64 (0 : Int), AV.int IntKind.i64 (0 : Int), AV.str [],
 AV.sl ((0 : Nat)) [] Own.nil, AV.int IntKind.i64 param, AV.int IntKind.i64 (0 : Int), AV.int IntKind.i64 (0 : Int),
 AV.sl ((0 : Nat)) [] Own.nil],
 AV.int IntKind.i64 kind, AV.sl ((6 : Nat)) (cesL l) Own.no, AV.int IntKind.i64 t, AV.ptr ((0 : Nat)) ((0 : Nat)),
 AV.ptr ((1 : Nat)) ((0 : Nat)), AV.lit (Value.iface (106 : TypeId) (Value.agg #[Value.bool true])), AV.bool true,
 AV.ptr ((2 : Nat)) ((0 : Nat)), AV.sl ((6 : Nat)) (cesL l) Own.no, AV.int IntKind.i64 (↑(cesL l).length : Int), AV.int IntKind.i64 (0 : Int)]
 [AV.agg
 [AV.int IntKind.i64 k0, AV.str op, AV.str [], AV.str [], AV.int IntKind.i64 (0 : Int), AV.int IntKind.i64 (0 : Int), AV.str [],
 AV.sl ((0 : Nat)) [] Own.nil, AV.int IntKind.i64 param, AV.int IntKind.i64 (0 : Int), AV.int IntKind.i64 (0 : Int),
 AV.sl ((0 : Nat)) [] Own.nil],
 AV.int IntKind.i64 kind, AV.sl ((6 : Nat)) (cesL l) Own.no, AV.int IntKind.i64 t, AV.ptr ((0 : Nat)) ((0 : Nat)),
 AV.ptr ((1 : Nat)) ((0 : Nat)), AV.lit (Value.iface (106 : TypeId) (Value.agg #[Value.bool true])), AV.bool true,
 AV.ptr ((2 : Nat)) ((0 : Nat)), AV.sl ((6 : Nat)) (cesL l) Own.no, AV.int IntKind.i64 (↑l.length : Int), AV.int IntKind.i64 (↑y : Int)] ∧
 StIs
 { boxes := [some [AV.int IntKind.i64 k0, AV.str op, AV.str [], AV.str [], AV.int IntKind.i64 (0 : Int), AV.int IntKind.i64 (0 : Int), AV.str [], AV.sl ((0 : Nat)) [] Own.nil, AV.int IntKind.i64 param, AV.int IntKind.i64 (0 : Int), AV.int IntKind.i64 (0 : Int), AV.sl ((0 : Nat)) [] Own.nil], some [AV.int IntKind.i64 (0 : Int), AV.int IntKind.i64 (0 : Int), AV.str []], some [AV.str op, AV.int IntKind.i64 param, AV.int IntKind.i64 kind, AV.int IntKind.i64 t, AV.int IntKind.i64 (0 : Int), AV.sl ((6 : Nat)) (cesL l) Own.no]], live := [] }
 { boxes := [some [AV.int IntKind.i64 k0, AV.str op, AV.str [], AV.str [], AV.int IntKind.i64 (0 : Int), AV.int IntKind.i64 (0 : Int), AV.str [], AV.sl ((0 : Nat)) [] Own.nil, AV.int IntKind.i64 param, AV.int IntKind.i64 (0 : Int), AV.int IntKind.i64 (0 : Int), AV.sl ((0 : Nat)) [] Own.nil], some [AV.int IntKind.i64 (0 : Int), AV.int IntKind.i64 (0 : Int), AV.str []], some [AV.str op, AV.int IntKind.i64 param, AV.int IntKind.i64 kind, AV.int IntKind.i64 t, AV.int IntKind.i64 (cntP (List.take y l)), AV.sl ((6 : Nat)) (cesL l) Own.no]], live := [] } ∧
 y ≤ l.length ∧ True) ∧
        ∀ (x : Nat),
 x ≤ l.length →
 (decide ((↑x : Int) < (↑l.length : Int)) = true →
 ((0 : Int) ≤ (↑x : Int) ∧ (↑x : Int) < (↑(cesL l).length : Int)) ∧
 ∃ (n : Int),
 ∃ (n_1 : Int),
 ∃ (n_2 : Int),
 ∃ (n_3 : Int),
 ∃ (es : List AV),
 ∃ (es_1 : List AV),
 takeAt PA ((42 : Nat)) (cesL l) (↑x : Int).toNat ((0 : Nat)) =
 some
 (AV.agg
 [AV.int IntKind.i64 n, AV.int IntKind.i64 n_1, AV.int IntKind.i64 n_2, AV.int IntKind.u64 n_3,
 AV.sl ((6 : Nat)) es Own.no, AV.sl ((2 : Nat)) es_1 Own.no]) ∧
 ∃ (y : Nat),
 ValsAre
 [AV.agg
 [AV.int IntKind.i64 k0, AV.str op, AV.str [], AV.str [], AV.int IntKind.i64 (0 : Int), AV.int IntKind.i64 (0 : Int),
 AV.str [], AV.sl ((0 : Nat)) [] Own.nil, AV.int IntKind.i64 param, AV.int IntKind.i64 (0 : Int),
 AV.int IntKind.i64 (0 : Int), AV.sl ((0 : Nat)) [] Own.nil],
 AV.int IntKind.i64 kind, AV.sl ((6 : Nat)) (cesL l) Own.no, AV.int IntKind.i64 t, AV.ptr ((0 : Nat)) ((0 : Nat)),
 AV.ptr ((1 : Nat)) ((0 : Nat)), AV.lit (Value.iface (106 : TypeId) (Value.agg #[Value.bool true])), AV.bool true,
 AV.ptr ((2 : Nat)) ((0 : Nat)), AV.sl ((6 : Nat)) (cesL l) Own.no, AV.int IntKind.i64 (↑l.length : Int),
 AV.int IntKind.i64 (IntKind.i64.wrap ((↑x : Int) + (1 : Int)))]
 [AV.agg
 [AV.int IntKind.i64 k0, AV.str op, AV.str [], AV.str [], AV.int IntKind.i64 (0 : Int), AV.int IntKind.i64 (0 : Int),
 AV.str [], AV.sl ((0 : Nat)) [] Own.nil, AV.int IntKind.i64 param, AV.int IntKind.i64 (0 : Int),
 AV.int IntKind.i64 (0 : Int), AV.sl ((0 : Nat)) [] Own.nil],
 AV.int IntKind.i64 kind, AV.sl ((6 : Nat)) (cesL l) Own.no, AV.int IntKind.i64 t, AV.ptr ((0 : Nat)) ((0 : Nat)),
 AV.ptr ((1 : Nat)) ((0 : Nat)), AV.lit (Value.iface (106 : TypeId) (Value.agg #[Value.bool true])), AV.bool true,
 AV.ptr ((2 : Nat)) ((0 : Nat)), AV.sl ((6 : Nat)) (cesL l) Own.no, AV.int IntKind.i64 (↑l.length : Int),
 AV.int IntKind.i64 (↑y : Int)] ∧
 StIs
 { boxes := [some [AV.int IntKind.i64 k0, AV.str op, AV.str [], AV.str [], AV.int IntKind.i64 (0 : Int), AV.int IntKind.i64 (0 : Int), AV.str [], AV.sl ((0 : Nat)) [] Own.nil, AV.int IntKind.i64 param, AV.int IntKind.i64 (0 : Int), AV.int IntKind.i64 (0 : Int), AV.sl ((0 : Nat)) [] Own.nil], some [AV.int IntKind.i64 (0 : Int), AV.int IntKind.i64 (0 : Int), AV.str []], some [AV.str op, AV.int IntKind.i64 param, AV.int IntKind.i64 kind, AV.int IntKind.i64 t, AV.int IntKind.i64 (IntKind.i64.wrap (cntP (List.take x l) + n_1)), AV.sl ((6 : Nat)) (cesL l) Own.no]], live := [] }
 { boxes := [some [AV.int IntKind.i64 k0, AV.str op, AV.str [], AV.str [], AV.int IntKind.i64 (0 : Int), AV.int IntKind.i64 (0 : Int), AV.str [], AV.sl ((0 : Nat)) [] Own.nil, AV.int IntKind.i64 param, AV.int IntKind.i64 (0 : Int), AV.int IntKind.i64 (0 : Int), AV.sl ((0 : Nat)) [] Own.nil], some [AV.int IntKind.i64 (0 : Int), AV.int IntKind.i64 (0 : Int), AV.str []], some [AV.str op, AV.int IntKind.i64 param, AV.int IntKind.i64 kind, AV.int IntKind.i64 t, AV.int IntKind.i64 (cntP (List.take y l)), AV.sl ((6 : Nat)) (cesL l) Own.no]], live := [] } ∧
 y ≤ l.length ∧ l.length - y < l.length - x) ∧
 (decide ((↑x : Int) < (↑l.length : Int)) = false →
 (decide (cntP (List.take x l) < (1 : Int)) = true →
 ((!op == [(99 : UInt8), (111 : UInt8), (117 : UInt8), (110 : UInt8), (116 : UInt8)]) = true →
 ((!op == [(100 : UInt8), (105 : UInt8), (115 : UInt8), (116 : UInt8), (105 : UInt8), (110 : UInt8), (99 : UInt8), (116 : UInt8)]) =
 true →
 RetIs (AV.agg [AV.int IntKind.i64 (0 : Int), AV.int IntKind.i64 (0 : Int), AV.str []]) [] (r, [])) ∧
 ((!op == [(100 : UInt8), (105 : UInt8), (115 : UInt8), (116 : UInt8), (105 : UInt8), (110 : UInt8), (99 : UInt8), (116 : UInt8)]) =
 false →
 ∃ (n : Int),
 ∃ (n_1 : Int),
 ∃ (s : List UInt8),
 CallIs
 (tbl [((40 : Nat), s24), ((146 : Nat), s101)] ((146 : Nat))
 [AV.agg [AV.bool true],
 AV.agg
 [AV.str op, AV.int IntKind.i64 param, AV.int IntKind.i64 kind, AV.int IntKind.i64 t,
 AV.int IntKind.i64 (cntP (List.take x l)), AV.sl ((6 : Nat)) (cesL l) Own.no]])
 (AV.agg [AV.int IntKind.i64 n, AV.int IntKind.i64 n_1, AV.str s]) [] ∧
 RetIs (AV.agg [AV.int IntKind.i64 n, AV.int IntKind.i64 n_1, AV.str s]) [] (r, []))) ∧
 ((!op == [(99 : UInt8), (111 : UInt8), (117 : UInt8), (110 : UInt8), (116 : UInt8)]) = false →
 ∃ (n : Int),
 ∃ (n_1 : Int),
 ∃ (s : List UInt8),
 CallIs
 (tbl [((40 : Nat), s24), ((146 : Nat), s101)] ((146 : Nat))
 [AV.agg [AV.bool true],
 AV.agg
 [AV.str op, AV.int IntKind.i64 param, AV.int IntKind.i64 kind, AV.int IntKind.i64 t,
 AV.int IntKind.i64 (cntP (List.take x l)), AV.sl ((6 : Nat)) (cesL l) Own.no]])
 (AV.agg [AV.int IntKind.i64 n, AV.int IntKind.i64 n_1, AV.str s]) [] ∧
 RetIs (AV.agg [AV.int IntKind.i64 n, AV.int IntKind.i64 n_1, AV.str s]) [] (r, []))) ∧
 (decide (cntP (List.take x l) < (1 : Int)) = false →
 ∃ (n : Int),
 ∃ (n_1 : Int),
 ∃ (s : List UInt8),
 CallIs
 (tbl [((40 : Nat), s24), ((146 : Nat), s101)] ((146 : Nat))
 [AV.agg [AV.bool true],
 AV.agg
 [AV.str op, AV.int IntKind.i64 param, AV.int IntKind.i64 kind, AV.int IntKind.i64 t,
 AV.int IntKind.i64 (cntP (List.take x l)), AV.sl ((6 : Nat)) (cesL l) Own.no]])
 (AV.agg [AV.int IntKind.i64 n, AV.int IntKind.i64 n_1, AV.str s]) [] ∧
 RetIs (AV.agg [AV.int IntKind.i64 n, AV.int IntKind.i64 n_1, AV.str s]) [] (r, [])))) ∧
    (true = false →
      (∃ (y : Nat),
 ValsAre
 [AV.agg
 [AV.int IntKind.i64 k0, AV.str op, AV.str [], AV.str [], AV.int IntKind.i64 (0 : Int), AV.int IntKind.i64 (0 : Int), AV.str [],
 AV.sl ((0 : Nat)) [] Own.nil, AV.int IntKind.i64 param, AV.int IntKind.i64 (0 : Int), AV.int IntKind.i64 (0 : Int),
 AV.sl ((0 : Nat)) [] Own.nil],
 AV.int IntKind.i64 kind, AV.sl ((6 : Nat)) (cesL l) Own.no, AV.int IntKind.i64 t, AV.ptr ((0 : Nat)) ((0 : Nat)),
 AV.ptr ((1 : Nat)) ((0 : Nat)), AV.lit (Value.iface (106 : TypeId) (Value.agg #[Value.bool true])), AV.bool false,
 AV.ptr ((2 : Nat)) ((0 : Nat)), AV.sl ((6 : Nat)) (cesL l) Own.no, AV.int IntKind.i64 (↑(cesL l).length : Int), AV.int IntKind.i64 (0 : Int)]
 [AV.agg
 [AV.int IntKind.i64 k0, AV.str op, AV.str [], AV.str [], AV.int IntKind.i64 (0 : Int), AV.int IntKind.i64 (0 : Int), AV.str [],
 AV.sl ((0 : Nat)) [] Own.nil, AV.int IntKind.i64 param, AV.int IntKind.i64 (0 : Int), AV.int IntKind.i64 (0 : Int),
 AV.sl ((0 : Nat)) [] Own.nil],
 AV.int IntKind.i64 kind, AV.sl ((6 : Nat)) (cesL l) Own.no, AV.int IntKind.i64 t, AV.ptr ((0 : Nat)) ((0 : Nat)),
 AV.ptr ((1 : Nat)) ((0 : Nat)), AV.lit (Value.iface (106 : TypeId) (Value.agg #[Value.bool true])), AV.bool true,
 AV.ptr ((2 : Nat)) ((0 : Nat)), AV.sl ((6 : Nat)) (cesL l) Own.no, AV.int IntKind.i64 (↑l.length : Int), AV.int IntKind.i64 (↑y : Int)] ∧
 StIs
 { boxes := [some [AV.int IntKind.i64 k0, AV.str op, AV.str [], AV.str [], AV.int IntKind.i64 (0 : Int), AV.int IntKind.i64 (0 : Int), AV.str [], AV.sl ((0 : Nat)) [] Own.nil, AV.int IntKind.i64 param, AV.int IntKind.i64 (0 : Int), AV.int IntKind.i64 (0 : Int), AV.sl ((0 : Nat)) [] Own.nil], some [AV.int IntKind.i64 (0 : Int), AV.int IntKind.i64 (0 : Int), AV.str []], some [AV.str op, AV.int IntKind.i64 param, AV.int IntKind.i64 kind, AV.int IntKind.i64 t, AV.int IntKind.i64 (0 : Int), AV.sl ((6 : Nat)) (cesL l) Own.no]], live := [] }
 { boxes := [some [AV.int IntKind.i64 k0, AV.str op, AV.str [], AV.str [], AV.int IntKind.i64 (0 : Int), AV.int IntKind.i64 (0 : Int), AV.str [], AV.sl ((0 : Nat)) [] Own.nil, AV.int IntKind.i64 param, AV.int IntKind.i64 (0 : Int), AV.int IntKind.i64 (0 : Int), AV.sl ((0 : Nat)) [] Own.nil], some [AV.int IntKind.i64 (0 : Int), AV.int IntKind.i64 (0 : Int), AV.str []], some [AV.str op, AV.int IntKind.i64 param, AV.int IntKind.i64 kind, AV.int IntKind.i64 t, AV.int IntKind.i64 (cntP (List.take y l)), AV.sl ((6 : Nat)) (cesL l) Own.no]], live := [] } ∧
 y ≤ l.length ∧ True) ∧
        ∀ (x : Nat),
 x ≤ l.length →
 (decide ((↑x : Int) < (↑l.length : Int)) = true →
 ((0 : Int) ≤ (↑x : Int) ∧ (↑x : Int) < (↑(cesL l).length : Int)) ∧
 ∃ (n : Int),
 ∃ (n_1 : Int),
 ∃ (n_2 : Int),
 ∃ (n_3 : Int),
 ∃ (es : List AV),
 ∃ (es_1 : List AV),
 takeAt PA ((42 : Nat)) (cesL l) (↑x : Int).toNat ((0 : Nat)) =
 some
 (AV.agg
 [AV.int IntKind.i64 n, AV.int IntKind.i64 n_1, AV.int IntKind.i64 n_2, AV.int IntKind.u64 n_3,
 AV.sl ((6 : Nat)) es Own.no, AV.sl ((2 : Nat)) es_1 Own.no]) ∧
 ∃ (y : Nat),
 ValsAre
 [AV.agg
 [AV.int IntKind.i64 k0, AV.str op, AV.str [], AV.str [], AV.int IntKind.i64 (0 : Int), AV.int IntKind.i64 (0 : Int),
 AV.str [], AV.sl ((0 : Nat)) [] Own.nil, AV.int IntKind.i64 param, AV.int IntKind.i64 (0 : Int),
 AV.int IntKind.i64 (0 : Int), AV.sl ((0 : Nat)) [] Own.nil],
 AV.int IntKind.i64 kind, AV.sl ((6 : Nat)) (cesL l) Own.no, AV.int IntKind.i64 t, AV.ptr ((0 : Nat)) ((0 : Nat)),
 AV.ptr ((1 : Nat)) ((0 : Nat)), AV.lit (Value.iface (106 : TypeId) (Value.agg #[Value.bool true])), AV.bool true,
 AV.ptr ((2 : Nat)) ((0 : Nat)), AV.sl ((6 : Nat)) (cesL l) Own.no, AV.int IntKind.i64 (↑l.length : Int),
 AV.int IntKind.i64 (IntKind.i64.wrap ((↑x : Int) + (1 : Int)))]
 [AV.agg
 [AV.int IntKind.i64 k0, AV.str op, AV.str [], AV.str [], AV.int IntKind.i64 (0 : Int), AV.int IntKind.i64 (0 : Int),
 AV.str [], AV.sl ((0 : Nat)) [] Own.nil, AV.int IntKind.i64 param, AV.int IntKind.i64 (0 : Int),
 AV.int IntKind.i64 (0 : Int), AV.sl ((0 : Nat)) [] Own.nil],
 AV.int IntKind.i64 kind, AV.sl ((6 : Nat)) (cesL l) Own.no, AV.int IntKind.i64 t, AV.ptr ((0 : Nat)) ((0 : Nat)),
 AV.ptr ((1 : Nat)) ((0 : Nat)), AV.lit (Value.iface (106 : TypeId) (Value.agg #[Value.bool true])), AV.bool true,
 AV.ptr ((2 : Nat)) ((0 : Nat)), AV.sl ((6 : Nat)) (cesL l) Own.no, AV.int IntKind.i64 (↑l.length : Int),
 AV.int IntKind.i64 (↑y : Int)] ∧
 StIs
 { boxes := [some [AV.int IntKind.i64 k0, AV.str op, AV.str [], AV.str [], AV.int IntKind.i64 (0 : Int), AV.int IntKind.i64 (0 : Int), AV.str [], AV.sl ((0 : Nat)) [] Own.nil, AV.int IntKind.i64 param, AV.int IntKind.i64 (0 : Int), AV.int IntKind.i64 (0 : Int), AV.sl ((0 : Nat)) [] Own.nil], some [AV.int IntKind.i64 (0 : Int), AV.int IntKind.i64 (0 : Int), AV.str []], some [AV.str op, AV.int IntKind.i64 param, AV.int IntKind.i64 kind, AV.int IntKind.i64 t, AV.int IntKind.i64 (IntKind.i64.wrap (cntP (List.take x l) + n_1)), AV.sl ((6 : Nat)) (cesL l) Own.no]], live := [] }
 { boxes := [some [AV.int IntKind.i64 k0, AV.str op, AV.str [], AV.str [], AV.int IntKind.i64 (0 : Int), AV.int IntKind.i64 (0 : Int), AV.str [], AV.sl ((0 : Nat)) [] Own.nil, AV.int IntKind.i64 param, AV.int IntKind.i64 (0 : Int), AV.int IntKind.i64 (0 : Int), AV.sl ((0 : Nat)) [] Own.nil], some [AV.int IntKind.i64 (0 : Int), AV.int IntKind.i64 (0 : Int), AV.str []], some [AV.str op, AV.int IntKind.i64 param, AV.int IntKind.i64 kind, AV.int IntKind.i64 t, AV.int IntKind.i64 (cntP (List.take y l)), AV.sl ((6 : Nat)) (cesL l) Own.no]], live := [] } ∧
 y ≤ l.length ∧ l.length - y < l.length - x) ∧
 (decide ((↑x : Int) < (↑l.length : Int)) = false →
 (decide (cntP (List.take x l) < (1 : Int)) = true →
 ((!op == [(99 : UInt8), (111 : UInt8), (117 : UInt8), (110 : UInt8), (116 : UInt8)]) = true →
 ((!op == [(100 : UInt8), (105 : UInt8), (115 : UInt8), (116 : UInt8), (105 : UInt8), (110 : UInt8), (99 : UInt8), (116 : UInt8)]) =
 true →
 RetIs (AV.agg [AV.int IntKind.i64 (0 : Int), AV.int IntKind.i64 (0 : Int), AV.str []]) [] (r, [])) ∧
 ((!op == [(100 : UInt8), (105 : UInt8), (115 : UInt8), (116 : UInt8), (105 : UInt8), (110 : UInt8), (99 : UInt8), (116 : UInt8)]) =
 false →
 ∃ (n : Int),
 ∃ (n_1 : Int),
 ∃ (s : List UInt8),
 CallIs
 (tbl [((40 : Nat), s24), ((146 : Nat), s101)] ((146 : Nat))
 [AV.agg [AV.bool true],
 AV.agg
 [AV.str op, AV.int IntKind.i64 param, AV.int IntKind.i64 kind, AV.int IntKind.i64 t,
 AV.int IntKind.i64 (cntP (List.take x l)), AV.sl ((6 : Nat)) (cesL l) Own.no]])
 (AV.agg [AV.int IntKind.i64 n, AV.int IntKind.i64 n_1, AV.str s]) [] ∧
 RetIs (AV.agg [AV.int IntKind.i64 n, AV.int IntKind.i64 n_1, AV.str s]) [] (r, []))) ∧
 ((!op == [(99 : UInt8), (111 : UInt8), (117 : UInt8), (110 : UInt8), (116 : UInt8)]) = false →
 ∃ (n : Int),
 ∃ (n_1 : Int),
 ∃ (s : List UInt8),
 CallIs
 (tbl [((40 : Nat), s24), ((146 : Nat), s101)] ((146 : Nat))
 [AV.agg [AV.bool true],
 AV.agg
 [AV.str op, AV.int IntKind.i64 param, AV.int IntKind.i64 kind, AV.int IntKind.i64 t,
 AV.int IntKind.i64 (cntP (List.take x l)), AV.sl ((6 : Nat)) (cesL l) Own.no]])
 (AV.agg [AV.int IntKind.i64 n, AV.int IntKind.i64 n_1, AV.str s]) [] ∧
 RetIs (AV.agg [AV.int IntKind.i64 n, AV.int IntKind.i64 n_1, AV.str s]) [] (r, []))) ∧
 (decide (cntP (List.take x l) < (1 : Int)) = false →
 ∃ (n : Int),
 ∃ (n_1 : Int),
 ∃ (s : List UInt8),
 CallIs
 (tbl [((40 : Nat), s24), ((146 : Nat), s101)] ((146 : Nat))
 [AV.agg [AV.bool true],
 AV.agg
 [AV.str op, AV.int IntKind.i64 param, AV.int IntKind.i64 kind, AV.int IntKind.i64 t,
 AV.int IntKind.i64 (cntP (List.take x l)), AV.sl ((6 : Nat)) (cesL l) Own.no]])
 (AV.agg [AV.int IntKind.i64 n, AV.int IntKind.i64 n_1, AV.str s]) [] ∧
 RetIs (AV.agg [AV.int IntKind.i64 n, AV.int IntKind.i64 n_1, AV.str s]) [] (r, []))))) := by kernel_rfl
end Go.Abs
