/- Own texts, part 9. -/
import Derived.Test.YtdajfgkcpflacaaPart8

namespace Go.Abs
open Go.Proofs Go.Proofs.K17 Go.RowKit
theorem w5 (op : List UInt8) (a b c : List ItI) (r : AV) : (pureW PA GA XL RMe (itbl []) (a5 op a b c) [] 5 [.str op, .sl 6 (itsL a) .no, .sl 6 (itsL b) .no, .sl 6 (itsL c) .no] (r, [])) =
(CallIs (some (AV.bool true, [])) (AV.bool true) [] ∧
  (true = true →
      ∃ (b_1 : Bool),
        CallIs (some (AV.bool (famO op).isSome, [])) (AV.bool b_1) [] ∧
 (b_1 = true →
 ∃ (b_2 : Bool),
 CallIs (RMe ((11 : Nat)) [AV.sl ((6 : Nat)) (itsL a) Own.no]) (AV.bool b_2) [] ∧
 (b_2 = true →
 ∃ (b_3 : Bool),
 CallIs (RMe ((11 : Nat)) [AV.sl ((6 : Nat)) (itsL b) Own.no]) (AV.bool b_3) [] ∧
 (b_3 = true →
 ∃ (b_4 : Bool),
 CallIs (RMe ((11 : Nat)) [AV.sl ((6 : Nat)) (itsL c) Own.no]) (AV.bool b_4) [] ∧
 (b_4 = true →
 (∃ (n : Int),
 ∃ (n_1 : Int),
 ∃ (n_2 : Int),
 ∃ (es : List AV),
 ∃ (es_1 : List AV),
 CallIs (RMe ((12 : Nat)) [AV.str op, AV.sl ((6 : Nat)) (itsL a) Own.no])
 (AV.agg
 [AV.int IntKind.i64 n, AV.int IntKind.i64 n_1, AV.int IntKind.u64 n_2, AV.sl ((6 : Nat)) es Own.no,
 AV.sl ((2 : Nat)) es_1 Own.no])
 [] ∧
 ∃ (n_3 : Int),
 ∃ (n_4 : Int),
 ∃ (n_5 : Int),
 ∃ (es_2 : List AV),
 ∃ (es_3 : List AV),
 CallIs (RMe ((12 : Nat)) [AV.str op, AV.sl ((6 : Nat)) (itsL b) Own.no])
 (AV.agg
 [AV.int IntKind.i64 n_3, AV.int IntKind.i64 n_4, AV.int IntKind.u64 n_5,
 AV.sl ((6 : Nat)) es_2 Own.no, AV.sl ((2 : Nat)) es_3 Own.no])
 [] ∧
 ∃ (n_6 : Int),
 ∃ (n_7 : Int),
 ∃ (n_8 : Int),
 ∃ (es_4 : List AV),
 ∃ (es_5 : List AV),
 CallIs (RMe ((12 : Nat)) [AV.str op, AV.sl ((6 : Nat)) (itsL c) Own.no])
 (AV.agg
 [AV.int IntKind.i64 n_6, AV.int IntKind.i64 n_7, AV.int IntKind.u64 n_8,
 AV.sl ((6 : Nat)) es_4 Own.no, AV.sl ((2 : Nat)) es_5 Own.no])
 [] ∧
 ∃ (_y : Unit),
 ValsAre
 [AV.str op, AV.sl ((6 : Nat)) (itsL a) Own.no,
 AV.sl ((6 : Nat)) (itsL b) Own.no, AV.sl ((6 : Nat)) (itsL c) Own.no,
 AV.ptr ((0 : Nat)) ((0 : Nat)), AV.ptr ((1 : Nat)) ((0 : Nat)),
 AV.ptr ((2 : Nat)) ((0 : Nat))]
 [AV.str op, AV.sl ((6 : Nat)) (itsL a) Own.no,
 AV.sl ((6 : Nat)) (itsL b) Own.no, AV.sl ((6 : Nat)) (itsL c) Own.no,
 AV.ptr ((0 : Nat)) ((0 : Nat)), AV.ptr ((1 : Nat)) ((0 : Nat)),
 AV.ptr ((2 : Nat)) ((0 : Nat))] ∧
 StIs
 { boxes := [some [AV.int IntKind.i64 n, AV.int IntKind.i64 n_1, AV.int IntKind.u64 n_2, AV.sl ((6 : Nat)) es Own.no, AV.sl ((2 : Nat)) es_1 Own.no], some [AV.int IntKind.i64 n_3, AV.int IntKind.i64 n_4, AV.int IntKind.u64 n_5, AV.sl ((6 : Nat)) es_2 Own.no, AV.sl ((2 : Nat)) es_3 Own.no], some [AV.int IntKind.i64 n_6, AV.int IntKind.i64 n_7, AV.int IntKind.u64 n_8, AV.sl ((6 : Nat)) es_4 Own.no, AV.sl ((2 : Nat)) es_5 Own.no]], live := [] }
 { boxes := [some [AV.int IntKind.i64 (ofP op a).n, AV.int IntKind.i64 (ofP op a).h, AV.int IntKind.u64 (ofP op a).l, AV.sl ((6 : Nat)) (itsL (ofP op a).its) Own.no, AV.sl ((2 : Nat)) (bksL (ofP op a).bks) Own.no], some [AV.int IntKind.i64 (ofP op b).n, AV.int IntKind.i64 (ofP op b).h, AV.int IntKind.u64 (ofP op b).l, AV.sl ((6 : Nat)) (itsL (ofP op b).its) Own.no, AV.sl ((2 : Nat)) (bksL (ofP op b).bks) Own.no], some [AV.int IntKind.i64 (ofP op c).n, AV.int IntKind.i64 (ofP op c).h, AV.int IntKind.u64 (ofP op c).l, AV.sl ((6 : Nat)) (itsL (ofP op c).its) Own.no, AV.sl ((2 : Nat)) (bksL (ofP op c).bks) Own.no]], live := [] } ∧
 True ∧ True) ∧
 ∀ (_x : Unit),
 True →
 True →
 (∃ (n : Int),
 ∃ (n_1 : Int),
 ∃ (n_2 : Int),
 ∃ (es : List AV),
 ∃ (es_1 : List AV),
 CallIs
 (RMe ((15 : Nat))
 [AV.str op,
 AV.agg
 [AV.int IntKind.i64 (ofP op a).n, AV.int IntKind.i64 (ofP op a).h,
 AV.int IntKind.u64 (ofP op a).l, AV.sl ((6 : Nat)) (itsL (ofP op a).its) Own.no,
 AV.sl ((2 : Nat)) (bksL (ofP op a).bks) Own.no],
 AV.agg
 [AV.int IntKind.i64 (ofP op b).n, AV.int IntKind.i64 (ofP op b).h,
 AV.int IntKind.u64 (ofP op b).l, AV.sl ((6 : Nat)) (itsL (ofP op b).its) Own.no,
 AV.sl ((2 : Nat)) (bksL (ofP op b).bks) Own.no]])
 (AV.agg
 [AV.int IntKind.i64 n, AV.int IntKind.i64 n_1, AV.int IntKind.u64 n_2,
 AV.sl ((6 : Nat)) es Own.no, AV.sl ((2 : Nat)) es_1 Own.no])
 [] ∧
 ∃ (n_3 : Int),
 ∃ (n_4 : Int),
 ∃ (n_5 : Int),
 ∃ (es_2 : List AV),
 ∃ (es_3 : List AV),
 CallIs
 (RMe ((15 : Nat))
 [AV.str op,
 AV.agg
 [AV.int IntKind.i64 n, AV.int IntKind.i64 n_1, AV.int IntKind.u64 n_2,
 AV.sl ((6 : Nat)) es Own.no, AV.sl ((2 : Nat)) es_1 Own.no],
 AV.agg
 [AV.int IntKind.i64 (ofP op c).n, AV.int IntKind.i64 (ofP op c).h,
 AV.int IntKind.u64 (ofP op c).l,
 AV.sl ((6 : Nat)) (itsL (ofP op c).its) Own.no,
 AV.sl ((2 : Nat)) (bksL (ofP op c).bks) Own.no]])
 (AV.agg
 [AV.int IntKind.i64 n_3, AV.int IntKind.i64 n_4, AV.int IntKind.u64 n_5,
 AV.sl ((6 : Nat)) es_2 Own.no, AV.sl ((2 : Nat)) es_3 Own.no])
 [] ∧
 ∃ (_y : Unit),
 ValsAre
 [AV.str op, AV.sl ((6 : Nat)) (itsL a) Own.no, AV.sl ((6 : Nat)) (itsL b) Own.no,
 AV.sl ((6 : Nat)) (itsL c) Own.no, AV.ptr ((0 : Nat)) ((0 : Nat)),
 AV.ptr ((1 : Nat)) ((0 : Nat)), AV.ptr ((2 : Nat)) ((0 : Nat)),
 AV.ptr ((3 : Nat)) ((0 : Nat))]
 [AV.str op, AV.sl ((6 : Nat)) (itsL a) Own.no, AV.sl ((6 : Nat)) (itsL b) Own.no,
 AV.sl ((6 : Nat)) (itsL c) Own.no, AV.ptr ((0 : Nat)) ((0 : Nat)),
 AV.ptr ((1 : Nat)) ((0 : Nat)), AV.ptr ((2 : Nat)) ((0 : Nat)),
 AV.ptr ((3 : Nat)) ((0 : Nat))] ∧
 StIs
 { boxes := [some [AV.int IntKind.i64 (ofP op a).n, AV.int IntKind.i64 (ofP op a).h, AV.int IntKind.u64 (ofP op a).l, AV.sl ((6 : Nat)) (itsL (ofP op a).its) Own.no, AV.sl ((2 : Nat)) (bksL (ofP op a).bks) Own.no], some [AV.int IntKind.i64 (ofP op b).n, AV.int IntKind.i64 (ofP op b).h, AV.int IntKind.u64 (ofP op b).l, AV.sl ((6 : Nat)) (itsL (ofP op b).its) Own.no, AV.sl ((2 : Nat)) (bksL (ofP op b).bks) Own.no], some [AV.int IntKind.i64 (ofP op c).n, AV.int IntKind.i64 (ofP op c).h, AV.int IntKind.u64 (ofP op c).l, AV.sl ((6 : Nat)) (itsL (ofP op c).its) Own.no, AV.sl ((2 : Nat)) (bksL (ofP op c).bks) Own.no], some [AV.int IntKind.i64 n_3, AV.int IntKind.i64 n_4, AV.int IntKind.u64 n_5, AV.sl ((6 : Nat)) es_2 Own.no, AV.sl ((2 : Nat)) es_3 Own.no]], live := [] }
 { boxes := [some [AV.int IntKind.i64 (ofP op a).n, AV.int IntKind.i64 (ofP op a).h, AV.int IntKind.u64 (ofP op a).l, AV.sl ((6 : Nat)) (itsL (ofP op a).its) Own.no, AV.sl ((2 : Nat)) (bksL (ofP op a).bks) Own.no], some [AV.int IntKind.i64 (ofP op b).n, AV.int IntKind.i64 (ofP op b).h, AV.int IntKind.u64 (ofP op b).l, AV.sl ((6 : Nat)) (itsL (ofP op b).its) Own.no, AV.sl ((2 : Nat)) (bksL (ofP op b).bks) Own.no], some [AV.int IntKind.i64 (ofP op c).n, AV.int IntKind.i64 (ofP op c).h, AV.int IntKind.u64 (ofP op c).l, AV.sl ((6 : Nat)) (itsL (ofP op c).its) Own.no, AV.sl ((2 : Nat)) (bksL (ofP op c).bks) Own.no], some [AV.int IntKind.i64 (stM1 op a b c).n, AV.int IntKind.i64 (stM1 op a b c).h, AV.int IntKind.u64 (stM1 op a b c).l, AV.sl ((6 : Nat)) (itsL (stM1 op a b c).its) Own.no, AV.sl ((2 : Nat)) (bksL (stM1 op a b c).bks) Own.no]], live := [] } ∧
 True ∧ True) ∧
 ∀ (_x : Unit),
 True →
 True →
 (∃ (n : Int),
 ∃ (n_1 : Int),
 ∃ (n_2 : Int),
 ∃ (es : List AV),
 ∃ (es_1 : List AV),
 CallIs
 (RMe ((15 : Nat))
 [AV.str op,
 AV.agg
 [AV.int IntKind.i64 (ofP op b).n, AV.int IntKind.i64 (ofP op b).h,
 AV.int IntKind.u64 (ofP op b).l, AV.sl ((6 : Nat)) (itsL (ofP op b).its) Own.no,
 AV.sl ((2 : Nat)) (bksL (ofP op b).bks) Own.no],
 AV.agg
 [AV.int IntKind.i64 (ofP op c).n, AV.int IntKind.i64 (ofP op c).h,
 AV.int IntKind.u64 (ofP op c).l, AV.sl ((6 : Nat)) (itsL (ofP op c).its) Own.no,
 AV.sl ((2 : Nat)) (bksL (ofP op c).bks) Own.no]])
 (AV.agg
 [AV.int IntKind.i64 n, AV.int IntKind.i64 n_1, AV.int IntKind.u64 n_2,
 AV.sl ((6 : Nat)) es Own.no, AV.sl ((2 : Nat)) es_1 Own.no])
 [] ∧
 ∃ (n_3 : Int),
 ∃ (n_4 : Int),
 ∃ (n_5 : Int),
 ∃ (es_2 : List AV),
 ∃ (es_3 : List AV),
 CallIs
 (RMe ((15 : Nat))
 [AV.str op,
 AV.agg
 [AV.int IntKind.i64 (ofP op a).n, AV.int IntKind.i64 (ofP op a).h,
 AV.int IntKind.u64 (ofP op a).l,
 AV.sl ((6 : Nat)) (itsL (ofP op a).its) Own.no,
 AV.sl ((2 : Nat)) (bksL (ofP op a).bks) Own.no],
 AV.agg
 [AV.int IntKind.i64 n, AV.int IntKind.i64 n_1, AV.int IntKind.u64 n_2,
 AV.sl ((6 : Nat)) es Own.no, AV.sl ((2 : Nat)) es_1 Own.no]])
 (AV.agg
 [AV.int IntKind.i64 n_3, AV.int IntKind.i64 n_4, AV.int IntKind.u64 n_5,
 AV.sl ((6 : Nat)) es_2 Own.no, AV.sl ((2 : Nat)) es_3 Own.no])
 [] ∧
 ∃ (_y : Unit),
 ValsAre
 [AV.str op, AV.sl ((6 : Nat)) (itsL a) Own.no,
 AV.sl ((6 : Nat)) (itsL b) Own.no, AV.sl ((6 : Nat)) (itsL c) Own.no,
 AV.ptr ((0 : Nat)) ((0 : Nat)), AV.ptr ((1 : Nat)) ((0 : Nat)),
 AV.ptr ((2 : Nat)) ((0 : Nat)), AV.ptr ((3 : Nat)) ((0 : Nat)),
 AV.ptr ((4 : Nat)) ((0 : Nat))]
 [AV.str op, AV.sl ((6 : Nat)) (itsL a) Own.no,
 AV.sl ((6 : Nat)) (itsL b) Own.no, AV.sl ((6 : Nat)) (itsL c) Own.no,
 AV.ptr ((0 : Nat)) ((0 : Nat)), AV.ptr ((1 : Nat)) ((0 : Nat)),
 AV.ptr ((2 : Nat)) ((0 : Nat)), AV.ptr ((3 : Nat)) ((0 : Nat)),
 AV.ptr ((4 : Nat)) ((0 : Nat))] ∧
 StIs
 { boxes := [some [AV.int IntKind.i64 (ofP op a).n, AV.int IntKind.i64 (ofP op a).h, AV.int IntKind.u64 (ofP op a).l, AV.sl ((6 : Nat)) (itsL (ofP op a).its) Own.no, AV.sl ((2 : Nat)) (bksL (ofP op a).bks) Own.no], some [AV.int IntKind.i64 (ofP op b).n, AV.int IntKind.i64 (ofP op b).h, AV.int IntKind.u64 (ofP op b).l, AV.sl ((6 : Nat)) (itsL (ofP op b).its) Own.no, AV.sl ((2 : Nat)) (bksL (ofP op b).bks) Own.no], some [AV.int IntKind.i64 (ofP op c).n, AV.int IntKind.i64 (ofP op c).h, AV.int IntKind.u64 (ofP op c).l, AV.sl ((6 : Nat)) (itsL (ofP op c).its) Own.no, AV.sl ((2 : Nat)) (bksL (ofP op c).bks) Own.no], some [AV.int IntKind.i64 (stM1 op a b c).n, AV.int IntKind.i64 (stM1 op a b c).h, AV.int IntKind.u64 (stM1 op a b c).l, AV.sl ((6 : Nat)) (itsL (stM1 op a b c).its) Own.no, AV.sl ((2 : Nat)) (bksL (stM1 op a b c).bks) Own.no], some [AV.int IntKind.i64 n_3, AV.int IntKind.i64 n_4, AV.int IntKind.u64 n_5, AV.sl ((6 : Nat)) es_2 Own.no, AV.sl ((2 : Nat)) es_3 Own.no]], live := [] }
 { boxes := [some [AV.int IntKind.i64 (ofP op a).n, AV.int IntKind.i64 (ofP op a).h, AV.int IntKind.u64 (ofP op a).l, AV.sl ((6 : Nat)) (itsL (ofP op a).its) Own.no, AV.sl ((2 : Nat)) (bksL (ofP op a).bks) Own.no], some [AV.int IntKind.i64 (ofP op b).n, AV.int IntKind.i64 (ofP op b).h, AV.int IntKind.u64 (ofP op b).l, AV.sl ((6 : Nat)) (itsL (ofP op b).its) Own.no, AV.sl ((2 : Nat)) (bksL (ofP op b).bks) Own.no], some [AV.int IntKind.i64 (ofP op c).n, AV.int IntKind.i64 (ofP op c).h, AV.int IntKind.u64 (ofP op c).l, AV.sl ((6 : Nat)) (itsL (ofP op c).its) Own.no, AV.sl ((2 : Nat)) (bksL (ofP op c).bks) Own.no], some [AV.int IntKind.i64 (stM1 op a b c).n, AV.int IntKind.i64 (stM1 op a b c).h, AV.int IntKind.u64 (stM1 op a b c).l, AV.sl ((6 : Nat)) (itsL (stM1 op a b c).its) Own.no, AV.sl ((2 : Nat)) (bksL (stM1 op a b c).bks) Own.no], some [AV.int IntKind.i64 (stM2 op a b c).n, AV.int IntKind.i64 (stM2 op a b c).h, AV.int IntKind.u64 (stM2 op a b c).l, AV.sl ((6 : Nat)) (itsL (stM2 op a b c).its) Own.no, AV.sl ((2 : Nat)) (bksL (stM2 op a b c).bks) Own.no]], live := [] } ∧
 True ∧ True) ∧
 ∀ (_x : Unit),
 True →
 True →
 (∃ (b_5 : Bool),
 CallIs
 (RMe ((13 : Nat))
 [AV.agg
 [AV.int IntKind.i64 (stM1 op a b c).n, AV.int IntKind.i64 (stM1 op a b c).h,
 AV.int IntKind.u64 (stM1 op a b c).l,
 AV.sl ((6 : Nat)) (itsL (stM1 op a b c).its) Own.no,
 AV.sl ((2 : Nat)) (bksL (stM1 op a b c).bks) Own.no],
 AV.agg
 [AV.int IntKind.i64 (stM2 op a b c).n, AV.int IntKind.i64 (stM2 op a b c).h,
 AV.int IntKind.u64 (stM2 op a b c).l,
 AV.sl ((6 : Nat)) (itsL (stM2 op a b c).its) Own.no,
 AV.sl ((2 : Nat)) (bksL (stM2 op a b c).bks) Own.no]])
 (AV.bool b_5) [] ∧
 (b_5 = true →
 ∃ (n : Int),
 ∃ (n_1 : Int),
 ∃ (n_2 : Int),
 ∃ (es : List AV),
 ∃ (es_1 : List AV),
 CallIs
 (some
 (AV.agg
 [AV.int IntKind.i64 (0 : Int), AV.int IntKind.i64 (0 : Int),
 AV.int IntKind.u64 (0 : Int), AV.sl ((6 : Nat)) [] Own.no,
 AV.sl ((2 : Nat)) [] Own.no],
 []))
 (AV.agg
 [AV.int IntKind.i64 n, AV.int IntKind.i64 n_1, AV.int IntKind.u64 n_2,
 AV.sl ((6 : Nat)) es Own.no, AV.sl ((2 : Nat)) es_1 Own.no])
 [] ∧
 ∃ (n_3 : Int),
 ∃ (n_4 : Int),
 ∃ (n_5 : Int),
 ∃ (es_2 : List AV),
 ∃ (es_3 : List AV),
 CallIs
 (RMe ((15 : Nat))
 [AV.str op,
 AV.agg
 [AV.int IntKind.i64 n, AV.int IntKind.i64 n_1,
 AV.int IntKind.u64 n_2, AV.sl ((6 : Nat)) es Own.no,
 AV.sl ((2 : Nat)) es_1 Own.no],
 AV.agg
 [AV.int IntKind.i64 (ofP op a).n,
 AV.int IntKind.i64 (ofP op a).h,
 AV.int IntKind.u64 (ofP op a).l,
 AV.sl ((6 : Nat)) (itsL (ofP op a).its) Own.no,
 AV.sl ((2 : Nat)) (bksL (ofP op a).bks) Own.no]])
 (AV.agg
 [AV.int IntKind.i64 n_3, AV.int IntKind.i64 n_4,
 AV.int IntKind.u64 n_5, AV.sl ((6 : Nat)) es_2 Own.no,
 AV.sl ((2 : Nat)) es_3 Own.no])
 [] ∧
 ∃ (b_6 : Bool),
 CallIs
 (RMe ((13 : Nat))
 [AV.agg
 [AV.int IntKind.i64 n_3, AV.int IntKind.i64 n_4,
 AV.int IntKind.u64 n_5,
 AV.sl ((6 : Nat)) es_2 Own.no,
 AV.sl ((2 : Nat)) es_3 Own.no],
 AV.agg
 [AV.int IntKind.i64 (ofP op a).n,
 AV.int IntKind.i64 (ofP op a).h,
 AV.int IntKind.u64 (ofP op a).l,
 AV.sl ((6 : Nat)) (itsL (ofP op a).its) Own.no,
 AV.sl ((2 : Nat)) (bksL (ofP op a).bks) Own.no]])
 (AV.bool b_6) [] ∧
 (b_6 = true →
 ∃ (n : Int),
 ∃ (n_6 : Int),
 ∃ (n_7 : Int),
 ∃ (es : List AV),
 ∃ (es_4 : List AV),
 CallIs
 (some
 (AV.agg
 [AV.int IntKind.i64 (0 : Int),
 AV.int IntKind.i64 (0 : Int),
 AV.int IntKind.u64 (0 : Int),
 AV.sl ((6 : Nat)) [] Own.no,
 AV.sl ((2 : Nat)) [] Own.no],
 []))
 (AV.agg
 [AV.int IntKind.i64 n,
 AV.int IntKind.i64 n_6,
 AV.int IntKind.u64 n_7,
 AV.sl ((6 : Nat)) es Own.no,
 AV.sl ((2 : Nat)) es_4 Own.no])
 [] ∧
 ∃ (n_8 : Int),
 ∃ (n_9 : Int),
 ∃ (n_10 : Int),
 ∃ (es_5 : List AV),
 ∃ (es_6 : List AV),
 CallIs
 (RMe ((15 : Nat))
 [AV.str op,
 AV.agg
 [AV.int IntKind.i64
 (ofP op a).n,
 AV.int IntKind.i64
 (ofP op a).h,
 AV.int IntKind.u64
 (ofP op a).l,
 AV.sl ((6 : Nat))
 (itsL
 (ofP op a).its)
 Own.no,
 AV.sl ((2 : Nat))
 (bksL
 (ofP op a).bks)
 Own.no],
 AV.agg
 [AV.int IntKind.i64 n,
 AV.int IntKind.i64
 n_6,
 AV.int IntKind.u64
 n_7,
 AV.sl ((6 : Nat)) es
 Own.no,
 AV.sl ((2 : Nat)) es_4
 Own.no]])
 (AV.agg
 [AV.int IntKind.i64 n_8,
 AV.int IntKind.i64 n_9,
 AV.int IntKind.u64 n_10,
 AV.sl ((6 : Nat)) es_5
 Own.no,
 AV.sl ((2 : Nat)) es_6
 Own.no])
 [] ∧
 ∃ (b_7 : Bool),
 CallIs
 (RMe ((13 : Nat))
 [AV.agg
 [AV.int IntKind.i64
 n_8,
 AV.int IntKind.i64
 n_9,
 AV.int IntKind.u64
 n_10,
 AV.sl ((6 : Nat))
 es_5 Own.no,
 AV.sl ((2 : Nat))
 es_6 Own.no],
 AV.agg
 [AV.int IntKind.i64
 (ofP op a).n,
 AV.int IntKind.i64
 (ofP op a).h,
 AV.int IntKind.u64
 (ofP op a).l,
 AV.sl ((6 : Nat))
 (itsL
 (ofP op
 a).its)
 Own.no,
 AV.sl ((2 : Nat))
 (bksL
 (ofP op
 a).bks)
 Own.no]])
 (AV.bool b_7) [] ∧
 (b_7 = true →
 ∃ (_y : Unit),
 ValsAre
 [AV.str op,
 AV.sl
 ((6 : Nat))
 (itsL a)
 Own.no,
 AV.sl
 ((6 : Nat))
 (itsL b)
 Own.no,
 AV.sl
 ((6 : Nat))
 (itsL c)
 Own.no,
 AV.ptr
 ((0 : Nat))
 ((0 : Nat)),
 AV.ptr
 ((1 : Nat))
 ((0 : Nat))]
 [AV.str op,
 AV.sl
 ((6 : Nat))
 (itsL a)
 Own.no,
 AV.sl
 ((6 : Nat))
 (itsL b)
 Own.no,
 AV.sl
 ((6 : Nat))
 (itsL c)
 Own.no,
 AV.ptr
 ((0 : Nat))
 ((0 : Nat)),
 AV.ptr
 ((1 : Nat))
 ((0 : Nat))] ∧
 StIs
 { boxes := [some [AV.int IntKind.i64 (ofP op a).n, AV.int IntKind.i64 (ofP op a).h, AV.int IntKind.u64 (ofP op a).l, AV.sl (nat_lit 6) (itsL (ofP op a).its) Own.no, AV.sl (nat_lit 2) (bksL (ofP op a).bks) Own.no], some [AV.int IntKind.i64 (ofP op b).n, AV.int IntKind.i64 (ofP op b).h, AV.int IntKind.u64 (ofP op b).l, AV.sl (nat_lit 6) (itsL (ofP op b).its) Own.no, AV.sl (nat_lit 2) (bksL (ofP op b).bks) Own.no], some [AV.int IntKind.i64 (ofP op c).n, AV.int IntKind.i64 (ofP op c).h, AV.int IntKind.u64 (ofP op c).l, AV.sl (nat_lit 6) (itsL (ofP op c).its) Own.no, AV.sl (nat_lit 2) (bksL (ofP op c).bks) Own.no], some [AV.int IntKind.i64 (stM1 op a b c).n, AV.int IntKind.i64 (stM1 op a b c).h, AV.int IntKind.u64 (stM1 op a b c).l, AV.sl (nat_lit 6) (itsL (stM1 op a b c).its) Own.no, AV.sl (nat_lit 2) (bksL (stM1 op a b c).bks) Own.no], some [AV.int IntKind.i64 (stM2 op a b c).n, AV.int IntKind.i64 (stM2 op a b c).h, AV.int IntKind.u64 (stM2 op a b c).l, AV.sl (nat_lit 6) (itsL (stM2 op a b c).its) Own.no, AV.sl (nat_lit 2) (bksL (stM2 op a b c).bks) Own.no]], live := [] }
 { boxes := [some [AV.int IntKind.i64 (ofP op a).n, AV.int IntKind.i64 (ofP op a).h, AV.int IntKind.u64 (ofP op a).l, AV.sl (nat_lit 6) (itsL (ofP op a).its) Own.no, AV.sl (nat_lit 2) (bksL (ofP op a).bks) Own.no], some [AV.int IntKind.i64 (ofP op b).n, AV.int IntKind.i64 (ofP op b).h, AV.int IntKind.u64 (ofP op b).l, AV.sl (nat_lit 6) (itsL (ofP op b).its) Own.no, AV.sl (nat_lit 2) (bksL (ofP op b).bks) Own.no], some [AV.int IntKind.i64 (ofP op c).n, AV.int IntKind.i64 (ofP op c).h, AV.int IntKind.u64 (ofP op c).l, AV.sl (nat_lit 6) (itsL (ofP op c).its) Own.no, AV.sl (nat_lit 2) (bksL (ofP op c).bks) Own.no], some [AV.int IntKind.i64 (stM1 op a b c).n, AV.int IntKind.i64 (stM1 op a b c).h, AV.int IntKind.u64 (stM1 op a b c).l, AV.sl (nat_lit 6) (itsL (stM1 op a b c).its) Own.no, AV.sl (nat_lit 2) (bksL (stM1 op a b c).bks) Own.no], some [AV.int IntKind.i64 (stM2 op a b c).n, AV.int IntKind.i64 (stM2 op a b c).h, AV.int IntKind.u64 (stM2 op a b c).l, AV.sl (nat_lit 6) (itsL (stM2 op a b c).its) Own.no, AV.sl (nat_lit 2) (bksL (stM2 op a b c).bks) Own.no]], live := [] } ∧
 True ∧ True) ∧
 (b_7 = false →
 RetIs (AV.bool false) []
 (r, []))) ∧
 (b_6 = false → RetIs (AV.bool false) [] (r, []))) ∧
 (b_5 = false → RetIs (AV.bool false) [] (r, []))) ∧
 ∀ (_x : Unit),
 True →
 True →
 (((op == [(102 : UInt8), (105 : UInt8), (114 : UInt8), (115 : UInt8), (116 : UInt8)]) =
 true →
 ∃ (b_5 : Bool),
 CallIs
 (RMe ((17 : Nat))
 [AV.sl ((6 : Nat)) (itsL a) Own.no, AV.sl ((6 : Nat)) (itsL b) Own.no])
 (AV.bool b_5) [] ∧
 (b_5 = true →
 ∃ (_y : Unit),
 ValsAre
 [AV.str op, AV.sl ((6 : Nat)) (itsL a) Own.no,
 AV.sl ((6 : Nat)) (itsL b) Own.no,
 AV.sl ((6 : Nat)) (itsL c) Own.no, AV.ptr ((0 : Nat)) ((0 : Nat)),
 AV.ptr ((1 : Nat)) ((0 : Nat))]
 [AV.str op, AV.sl ((6 : Nat)) (itsL a) Own.no,
 AV.sl ((6 : Nat)) (itsL b) Own.no,
 AV.sl ((6 : Nat)) (itsL c) Own.no, AV.ptr ((0 : Nat)) ((0 : Nat)),
 AV.ptr ((1 : Nat)) ((0 : Nat))] ∧
 StIs
 { boxes := [some [AV.int IntKind.i64 (ofP op a).n, AV.int IntKind.i64 (ofP op a).h, AV.int IntKind.u64 (ofP op a).l, AV.sl ((6 : Nat)) (itsL (ofP op a).its) Own.no, AV.sl ((2 : Nat)) (bksL (ofP op a).bks) Own.no], some [AV.int IntKind.i64 (ofP op b).n, AV.int IntKind.i64 (ofP op b).h, AV.int IntKind.u64 (ofP op b).l, AV.sl ((6 : Nat)) (itsL (ofP op b).its) Own.no, AV.sl ((2 : Nat)) (bksL (ofP op b).bks) Own.no], some [AV.int IntKind.i64 (ofP op c).n, AV.int IntKind.i64 (ofP op c).h, AV.int IntKind.u64 (ofP op c).l, AV.sl ((6 : Nat)) (itsL (ofP op c).its) Own.no, AV.sl ((2 : Nat)) (bksL (ofP op c).bks) Own.no], some [AV.int IntKind.i64 (stM1 op a b c).n, AV.int IntKind.i64 (stM1 op a b c).h, AV.int IntKind.u64 (stM1 op a b c).l, AV.sl ((6 : Nat)) (itsL (stM1 op a b c).its) Own.no, AV.sl ((2 : Nat)) (bksL (stM1 op a b c).bks) Own.no], some [AV.int IntKind.i64 (stM2 op a b c).n, AV.int IntKind.i64 (stM2 op a b c).h, AV.int IntKind.u64 (stM2 op a b c).l, AV.sl ((6 : Nat)) (itsL (stM2 op a b c).its) Own.no, AV.sl ((2 : Nat)) (bksL (stM2 op a b c).bks) Own.no]], live := [] }
 { boxes := [some [AV.int IntKind.i64 (ofP op a).n, AV.int IntKind.i64 (ofP op a).h, AV.int IntKind.u64 (ofP op a).l, AV.sl ((6 : Nat)) (itsL (ofP op a).its) Own.no, AV.sl ((2 : Nat)) (bksL (ofP op a).bks) Own.no], some [AV.int IntKind.i64 (ofP op b).n, AV.int IntKind.i64 (ofP op b).h, AV.int IntKind.u64 (ofP op b).l, AV.sl ((6 : Nat)) (itsL (ofP op b).its) Own.no, AV.sl ((2 : Nat)) (bksL (ofP op b).bks) Own.no], some [AV.int IntKind.i64 (ofP op c).n, AV.int IntKind.i64 (ofP op c).h, AV.int IntKind.u64 (ofP op c).l, AV.sl ((6 : Nat)) (itsL (ofP op c).its) Own.no, AV.sl ((2 : Nat)) (bksL (ofP op c).bks) Own.no], some [AV.int IntKind.i64 (stM1 op a b c).n, AV.int IntKind.i64 (stM1 op a b c).h, AV.int IntKind.u64 (stM1 op a b c).l, AV.sl ((6 : Nat)) (itsL (stM1 op a b c).its) Own.no, AV.sl ((2 : Nat)) (bksL (stM1 op a b c).bks) Own.no], some [AV.int IntKind.i64 (stM2 op a b c).n, AV.int IntKind.i64 (stM2 op a b c).h, AV.int IntKind.u64 (stM2 op a b c).l, AV.sl ((6 : Nat)) (itsL (stM2 op a b c).its) Own.no, AV.sl ((2 : Nat)) (bksL (stM2 op a b c).bks) Own.no]], live := [] } ∧
 (op = bFirst ∨ op = bLast → befP a b = true) ∧ True) ∧
 (b_5 = false → RetIs (AV.bool true) [] (r, []))) ∧
 ((op == [(102 : UInt8), (105 : UInt8), (114 : UInt8), (115 : UInt8), (116 : UInt8)]) =
 false →
 ((op == [(108 : UInt8), (97 : UInt8), (115 : UInt8), (116 : UInt8)]) = true →
 ∃ (b_5 : Bool),
 CallIs
 (RMe ((17 : Nat))
 [AV.sl ((6 : Nat)) (itsL a) Own.no, AV.sl ((6 : Nat)) (itsL b) Own.no])
 (AV.bool b_5) [] ∧
 (b_5 = true →
 ∃ (_y : Unit),
 ValsAre
 [AV.str op, AV.sl ((6 : Nat)) (itsL a) Own.no,
 AV.sl ((6 : Nat)) (itsL b) Own.no,
 AV.sl ((6 : Nat)) (itsL c) Own.no,
 AV.ptr ((0 : Nat)) ((0 : Nat)), AV.ptr ((1 : Nat)) ((0 : Nat))]
 [AV.str op, AV.sl ((6 : Nat)) (itsL a) Own.no,
 AV.sl ((6 : Nat)) (itsL b) Own.no,
 AV.sl ((6 : Nat)) (itsL c) Own.no,
 AV.ptr ((0 : Nat)) ((0 : Nat)),
 AV.ptr ((1 : Nat)) ((0 : Nat))] ∧
 StIs
 { boxes := [some [AV.int IntKind.i64 (ofP op a).n, AV.int IntKind.i64 (ofP op a).h, AV.int IntKind.u64 (ofP op a).l, AV.sl ((6 : Nat)) (itsL (ofP op a).its) Own.no, AV.sl ((2 : Nat)) (bksL (ofP op a).bks) Own.no], some [AV.int IntKind.i64 (ofP op b).n, AV.int IntKind.i64 (ofP op b).h, AV.int IntKind.u64 (ofP op b).l, AV.sl ((6 : Nat)) (itsL (ofP op b).its) Own.no, AV.sl ((2 : Nat)) (bksL (ofP op b).bks) Own.no], some [AV.int IntKind.i64 (ofP op c).n, AV.int IntKind.i64 (ofP op c).h, AV.int IntKind.u64 (ofP op c).l, AV.sl ((6 : Nat)) (itsL (ofP op c).its) Own.no, AV.sl ((2 : Nat)) (bksL (ofP op c).bks) Own.no], some [AV.int IntKind.i64 (stM1 op a b c).n, AV.int IntKind.i64 (stM1 op a b c).h, AV.int IntKind.u64 (stM1 op a b c).l, AV.sl ((6 : Nat)) (itsL (stM1 op a b c).its) Own.no, AV.sl ((2 : Nat)) (bksL (stM1 op a b c).bks) Own.no], some [AV.int IntKind.i64 (stM2 op a b c).n, AV.int IntKind.i64 (stM2 op a b c).h, AV.int IntKind.u64 (stM2 op a b c).l, AV.sl ((6 : Nat)) (itsL (stM2 op a b c).its) Own.no, AV.sl ((2 : Nat)) (bksL (stM2 op a b c).bks) Own.no]], live := [] }
 { boxes := [some [AV.int IntKind.i64 (ofP op a).n, AV.int IntKind.i64 (ofP op a).h, AV.int IntKind.u64 (ofP op a).l, AV.sl ((6 : Nat)) (itsL (ofP op a).its) Own.no, AV.sl ((2 : Nat)) (bksL (ofP op a).bks) Own.no], some [AV.int IntKind.i64 (ofP op b).n, AV.int IntKind.i64 (ofP op b).h, AV.int IntKind.u64 (ofP op b).l, AV.sl ((6 : Nat)) (itsL (ofP op b).its) Own.no, AV.sl ((2 : Nat)) (bksL (ofP op b).bks) Own.no], some [AV.int IntKind.i64 (ofP op c).n, AV.int IntKind.i64 (ofP op c).h, AV.int IntKind.u64 (ofP op c).l, AV.sl ((6 : Nat)) (itsL (ofP op c).its) Own.no, AV.sl ((2 : Nat)) (bksL (ofP op c).bks) Own.no], some [AV.int IntKind.i64 (stM1 op a b c).n, AV.int IntKind.i64 (stM1 op a b c).h, AV.int IntKind.u64 (stM1 op a b c).l, AV.sl ((6 : Nat)) (itsL (stM1 op a b c).its) Own.no, AV.sl ((2 : Nat)) (bksL (stM1 op a b c).bks) Own.no], some [AV.int IntKind.i64 (stM2 op a b c).n, AV.int IntKind.i64 (stM2 op a b c).h, AV.int IntKind.u64 (stM2 op a b c).l, AV.sl ((6 : Nat)) (itsL (stM2 op a b c).its) Own.no, AV.sl ((2 : Nat)) (bksL (stM2 op a b c).bks) Own.no]], live := [] } ∧
 (op = bFirst ∨ op = bLast → befP a b = true) ∧ True) ∧
 (b_5 = false → RetIs (AV.bool true) [] (r, []))) ∧
 ((op == [(108 : UInt8), (97 : UInt8), (115 : UInt8), (116 : UInt8)]) = false →
 ∃ (_y : Unit),
 ValsAre
 [AV.str op, AV.sl ((6 : Nat)) (itsL a) Own.no,
 AV.sl ((6 : Nat)) (itsL b) Own.no, AV.sl ((6 : Nat)) (itsL c) Own.no,
 AV.ptr ((0 : Nat)) ((0 : Nat)), AV.ptr ((1 : Nat)) ((0 : Nat))]
 [AV.str op, AV.sl ((6 : Nat)) (itsL a) Own.no,
 AV.sl ((6 : Nat)) (itsL b) Own.no, AV.sl ((6 : Nat)) (itsL c) Own.no,
 AV.ptr ((0 : Nat)) ((0 : Nat)), AV.ptr ((1 : Nat)) ((0 : Nat))] ∧
 StIs
 { boxes := [some [AV.int IntKind.i64 (ofP op a).n, AV.int IntKind.i64 (ofP op a).h, AV.int IntKind.u64 (ofP op a).l, AV.sl ((6 : Nat)) (itsL (ofP op a).its) Own.no, AV.sl ((2 : Nat)) (bksL (ofP op a).bks) Own.no], some [AV.int IntKind.i64 (ofP op b).n, AV.int IntKind.i64 (ofP op b).h, AV.int IntKind.u64 (ofP op b).l, AV.sl ((6 : Nat)) (itsL (ofP op b).its) Own.no, AV.sl ((2 : Nat)) (bksL (ofP op b).bks) Own.no], some [AV.int IntKind.i64 (ofP op c).n, AV.int IntKind.i64 (ofP op c).h, AV.int IntKind.u64 (ofP op c).l, AV.sl ((6 : Nat)) (itsL (ofP op c).its) Own.no, AV.sl ((2 : Nat)) (bksL (ofP op c).bks) Own.no], some [AV.int IntKind.i64 (stM1 op a b c).n, AV.int IntKind.i64 (stM1 op a b c).h, AV.int IntKind.u64 (stM1 op a b c).l, AV.sl ((6 : Nat)) (itsL (stM1 op a b c).its) Own.no, AV.sl ((2 : Nat)) (bksL (stM1 op a b c).bks) Own.no], some [AV.int IntKind.i64 (stM2 op a b c).n, AV.int IntKind.i64 (stM2 op a b c).h, AV.int IntKind.u64 (stM2 op a b c).l, AV.sl ((6 : Nat)) (itsL (stM2 op a b c).its) Own.no, AV.sl ((2 : Nat)) (bksL (stM2 op a b c).bks) Own.no]], live := [] }
 { boxes := [some [AV.int IntKind.i64 (ofP op a).n, AV.int IntKind.i64 (ofP op a).h, AV.int IntKind.u64 (ofP op a).l, AV.sl ((6 : Nat)) (itsL (ofP op a).its) Own.no, AV.sl ((2 : Nat)) (bksL (ofP op a).bks) Own.no], some [AV.int IntKind.i64 (ofP op b).n, AV.int IntKind.i64 (ofP op b).h, AV.int IntKind.u64 (ofP op b).l, AV.sl ((6 : Nat)) (itsL (ofP op b).its) Own.no, AV.sl ((2 : Nat)) (bksL (ofP op b).bks) Own.no], some [AV.int IntKind.i64 (ofP op c).n, AV.int IntKind.i64 (ofP op c).h, AV.int IntKind.u64 (ofP op c).l, AV.sl ((6 : Nat)) (itsL (ofP op c).its) Own.no, AV.sl ((2 : Nat)) (bksL (ofP op c).bks) Own.no], some [AV.int IntKind.i64 (stM1 op a b c).n, AV.int IntKind.i64 (stM1 op a b c).h, AV.int IntKind.u64 (stM1 op a b c).l, AV.sl ((6 : Nat)) (itsL (stM1 op a b c).its) Own.no, AV.sl ((2 : Nat)) (bksL (stM1 op a b c).bks) Own.no], some [AV.int IntKind.i64 (stM2 op a b c).n, AV.int IntKind.i64 (stM2 op a b c).h, AV.int IntKind.u64 (stM2 op a b c).l, AV.sl ((6 : Nat)) (itsL (stM2 op a b c).its) Own.no, AV.sl ((2 : Nat)) (bksL (stM2 op a b c).bks) Own.no]], live := [] } ∧
 (op = bFirst ∨ op = bLast → befP a b = true) ∧ True))) ∧
 ∀ (_x : Unit),
 (op = bFirst ∨ op = bLast → befP a b = true) →
 True →
 ∃ (n : Int),
 ∃ (n_1 : Int),
 ∃ (n_2 : Int),
 ∃ (es : List AV),
 ∃ (es_1 : List AV),
 CallIs
 (RMe ((15 : Nat))
 [AV.str op,
 AV.agg
 [AV.int IntKind.i64 (ofP op a).n,
 AV.int IntKind.i64 (ofP op a).h,
 AV.int IntKind.u64 (ofP op a).l,
 AV.sl ((6 : Nat)) (itsL (ofP op a).its) Own.no,
 AV.sl ((2 : Nat)) (bksL (ofP op a).bks) Own.no],
 AV.agg
 [AV.int IntKind.i64 (ofP op b).n,
 AV.int IntKind.i64 (ofP op b).h,
 AV.int IntKind.u64 (ofP op b).l,
 AV.sl ((6 : Nat)) (itsL (ofP op b).its) Own.no,
 AV.sl ((2 : Nat)) (bksL (ofP op b).bks) Own.no]])
 (AV.agg
 [AV.int IntKind.i64 n, AV.int IntKind.i64 n_1,
 AV.int IntKind.u64 n_2, AV.sl ((6 : Nat)) es Own.no,
 AV.sl ((2 : Nat)) es_1 Own.no])
 [] ∧
 ((6 : Nat) = (6 : Nat) ∨ ([] : List AV) = []) ∧
 ((0 : Nat) + (itsL a).length) * (65 : Nat) ≤
 (70368744177664 : Nat) ∧
 (itsL a = [] →
 ((6 : Nat) = (6 : Nat) ∨ ([] : List AV) = []) ∧
 ((0 : Nat) + (itsL b).length) * (65 : Nat) ≤
 (70368744177664 : Nat) ∧
 (itsL b = [] →
 ∃ (n_3 : Int),
 ∃ (n_4 : Int),
 ∃ (n_5 : Int),
 ∃ (es_2 : List AV),
 ∃ (es_3 : List AV),
 CallIs
 (some
 (AV.agg
 [AV.int IntKind.i64 (ofP op []).n,
 AV.int IntKind.i64
 (ofP op []).h,
 AV.int IntKind.u64
 (ofP op []).l,
 AV.sl ((6 : Nat)) [] Own.no,
 AV.sl ((2 : Nat)) [] Own.no],
 []))
 (AV.agg
 [AV.int IntKind.i64 n_3,
 AV.int IntKind.i64 n_4,
 AV.int IntKind.u64 n_5,
 AV.sl ((6 : Nat)) es_2 Own.no,
 AV.sl ((2 : Nat)) es_3 Own.no])
 [] ∧
 ∃ (b : Bool),
 CallIs
 (RMe ((13 : Nat))
 [AV.agg
 [AV.int IntKind.i64 n,
 AV.int IntKind.i64 n_1,
 AV.int IntKind.u64 n_2,
 AV.sl ((6 : Nat)) es Own.no,
 AV.sl ((2 : Nat)) es_1
 Own.no],
 AV.agg
 [AV.int IntKind.i64 n_3,
 AV.int IntKind.i64 n_4,
 AV.int IntKind.u64 n_5,
 AV.sl ((6 : Nat)) es_2
 Own.no,
 AV.sl ((2 : Nat)) es_3
 Own.no]])
 (AV.bool b) [] ∧
 (b = true →
 RetIs (AV.bool true) [] (r, [])) ∧
 (b = false →
 RetIs (AV.bool false) []
 (r, []))) ∧
 (itsL b ≠ [] →
 ∃ (n_3 : Int),
 ∃ (n_4 : Int),
 ∃ (n_5 : Int),
 ∃ (es_2 : List AV),
 ∃ (es_3 : List AV),
 CallIs
 (RMe ((12 : Nat))
 [AV.str op,
 AV.sl ((6 : Nat)) ([] ++ itsL b)
 Own.no])
 (AV.agg
 [AV.int IntKind.i64 n_3,
 AV.int IntKind.i64 n_4,
 AV.int IntKind.u64 n_5,
 AV.sl ((6 : Nat)) es_2 Own.no,
 AV.sl ((2 : Nat)) es_3 Own.no])
 [] ∧
 ∃ (b : Bool),
 CallIs
 (RMe ((13 : Nat))
 [AV.agg
 [AV.int IntKind.i64 n,
 AV.int IntKind.i64 n_1,
 AV.int IntKind.u64 n_2,
 AV.sl ((6 : Nat)) es Own.no,
 AV.sl ((2 : Nat)) es_1
 Own.no],
 AV.agg
 [AV.int IntKind.i64 n_3,
 AV.int IntKind.i64 n_4,
 AV.int IntKind.u64 n_5,
 AV.sl ((6 : Nat)) es_2
 Own.no,
 AV.sl ((2 : Nat)) es_3
 Own.no]])
 (AV.bool b) [] ∧
 (b = true →
 RetIs (AV.bool true) [] (r, [])) ∧
 (b = false →
 RetIs (AV.bool false) []
 (r, [])))) ∧
 (itsL a ≠ [] →
 ((6 : Nat) = (6 : Nat) ∨ [] ++ itsL a = []) ∧
 (([] ++ itsL a).length + (itsL b).length) * (65 : Nat) ≤
 (70368744177664 : Nat) ∧
 (0 : Nat) + (itsL a).length = ([] ++ itsL a).length ∧
 ∃ (n_3 : Int),
 ∃ (n_4 : Int),
 ∃ (n_5 : Int),
 ∃ (es_2 : List AV),
 ∃ (es_3 : List AV),
 CallIs
 (RMe ((12 : Nat))
 [AV.str op,
 AV.sl ((6 : Nat))
 ([] ++ itsL a ++ itsL b) Own.no])
 (AV.agg
 [AV.int IntKind.i64 n_3,
 AV.int IntKind.i64 n_4,
 AV.int IntKind.u64 n_5,
 AV.sl ((6 : Nat)) es_2 Own.no,
 AV.sl ((2 : Nat)) es_3 Own.no])
 [] ∧
 ∃ (b : Bool),
 CallIs
 (RMe ((13 : Nat))
 [AV.agg
 [AV.int IntKind.i64 n,
 AV.int IntKind.i64 n_1,
 AV.int IntKind.u64 n_2,
 AV.sl ((6 : Nat)) es Own.no,
 AV.sl ((2 : Nat)) es_1
 Own.no],
 AV.agg
 [AV.int IntKind.i64 n_3,
 AV.int IntKind.i64 n_4,
 AV.int IntKind.u64 n_5,
 AV.sl ((6 : Nat)) es_2 Own.no,
 AV.sl ((2 : Nat)) es_3
 Own.no]])
 (AV.bool b) [] ∧
 (b = true →
 RetIs (AV.bool true) [] (r, [])) ∧
 (b = false →
 RetIs (AV.bool false) []
 (r, [])))) ∧
 (b_4 = false → RetIs (AV.bool true) [] (r, []))) ∧
 (b_3 = false → RetIs (AV.bool true) [] (r, []))) ∧
 (b_2 = false → RetIs (AV.bool true) [] (r, []))) ∧
 (b_1 = false → RetIs (AV.bool true) [] (r, []))) ∧
    (true = false → RetIs (AV.bool false) [] (r, []))) := by kernel_rfl
end Go.Abs

namespace Go.Abs
open Go.Proofs Go.Proofs.K17 Go.RowKit
structure Ord3 {α : Type} (f : α → α → Int) : Prop where
  eq : ∀ a b, f a b = 0 ↔ a = b
  neg : ∀ a b, f b a = - f a b
  trans : ∀ a b c, f a b < 0 → f b c < 0 → f a c < 0
theorem ord_int : Ord3 Lib.compareInt := by
  refine ⟨fun a b => ?_, fun a b => ?_, fun a b c h1 h2 => ?_⟩
  · unfold Lib.compareInt; split
    · omega
    · split <;> omega
  · unfold Lib.compareInt; split <;> split <;> (try split) <;> (try split) <;> omega
  · unfold Lib.compareInt at *
    split at h1 <;> split at h2
    · rw [if_pos (by omega)]; omega
    · split at h2 <;> omega
    · split at h1 <;> omega
    · split at h1 <;> omega
theorem u8_lt {a b : UInt8} : a < b ↔ a.toNat < b.toNat := UInt8.lt_iff_toNat_lt
theorem cb_eq : ∀ a b, Lib.compareBytes a b = 0 ↔ a = b
  | [], [] => by simp [Lib.compareBytes]
  | [], _ :: _ => by simp [Lib.compareBytes]
  | _ :: _, [] => by simp [Lib.compareBytes]
  | x :: a, y :: b => by
    unfold Lib.compareBytes
    by_cases h1 : x < y
    · rw [if_pos h1]
      refine ⟨fun h => by omega, fun h => ?_⟩
      injection h with h _; subst h; exact absurd h1 (UInt8.lt_irrefl x)
    · rw [if_neg h1]
      by_cases h2 : y < x
      · rw [if_pos h2]
        refine ⟨fun h => by omega, fun h => ?_⟩
        injection h with h _; subst h; exact absurd h2 (UInt8.lt_irrefl x)
      · rw [if_neg h2, cb_eq a b]
        rw [u8_lt] at h1 h2
        have e : x = y := UInt8.toNat_inj.1 (by omega)
        subst e
        simp
theorem cb_neg : ∀ a b, Lib.compareBytes b a = - Lib.compareBytes a b
  | [], [] => by simp [Lib.compareBytes]
  | [], _ :: _ => by simp [Lib.compareBytes]
  | _ :: _, [] => by simp [Lib.compareBytes]
  | x :: a, y :: b => by
    unfold Lib.compareBytes
    rw [cb_neg a b]
    simp only [u8_lt]
    split <;> split <;> (try split) <;> (try split) <;> omega
theorem cb_trans : ∀ a b c, Lib.compareBytes a b < 0 → Lib.compareBytes b c < 0 → Lib.compareBytes a c < 0
  | [], [], c, h1, _ => by simp [Lib.compareBytes] at h1
  | [], _ :: _, [], _, h2 => by simp [Lib.compareBytes] at h2
  | [], _ :: _, _ :: _, _, _ => by simp [Lib.compareBytes]
  | _ :: _, [], _, h1, _ => by simp [Lib.compareBytes] at h1
  | _ :: _, _ :: _, [], _, h2 => by simp [Lib.compareBytes] at h2
  | x :: a, y :: b, z :: c, h1, h2 => by
    have ih := cb_trans a b c
    unfold Lib.compareBytes at h1 h2 ⊢
    simp only [u8_lt] at h1 h2 ⊢
    by_cases h3 : x.toNat < z.toNat
    · rw [if_pos h3]; omega
    · rw [if_neg h3]
      by_cases h4 : x.toNat < y.toNat
      · rw [if_neg (by omega), if_pos (by omega)] at h2; omega
      · rw [if_neg h4] at h1
        by_cases h5 : y.toNat < x.toNat
        · rw [if_pos h5] at h1; omega
        · rw [if_neg h5] at h1
          rw [if_neg (by omega)] at h2
          by_cases h6 : z.toNat < y.toNat
          · rw [if_pos h6] at h2; omega
          · rw [if_neg h6] at h2
            rw [if_neg (by omega)]
            exact ih h1 h2
theorem ord_bytes : Ord3 Lib.compareBytes := ⟨cb_eq, cb_neg, cb_trans⟩
theorem bl_iff : ∀ a b : List UInt8, Op.bytesLess a b = true ↔ Lib.compareBytes a b < 0
  | [], [] => by simp [Op.bytesLess, Lib.compareBytes]
  | [], _ :: _ => by simp [Op.bytesLess, Lib.compareBytes]
  | _ :: _, [] => by simp [Op.bytesLess, Lib.compareBytes]
  | x :: a, y :: b => by
    have ih := bl_iff a b
    unfold Op.bytesLess Lib.compareBytes
    by_cases h1 : x < y
    · simp [h1]
    · by_cases h2 : y < x
      · have ne : ¬ x = y := fun e => by subst e; exact UInt8.lt_irrefl x h2
        simp [h1, h2, ne]
      · simp only [h1, h2, if_false]
        have e : x = y := by
          rw [u8_lt] at h1 h2
          exact UInt8.toNat_inj.1 (by omega)
        simp [e, ih]
def lex {α β : Type} (f : α → α → Int) (g : β → β → Int) (p q : α × β) : Int := if f p.1 q.1 = 0 then g p.2 q.2 else f p.1 q.1
theorem ord_lex {α β : Type} {f : α → α → Int} {g : β → β → Int} (hf : Ord3 f) (hg : Ord3 g) : Ord3 (lex f g) := by
  refine ⟨fun a b => ?_, fun a b => ?_, fun a b c h1 h2 => ?_⟩
  · obtain ⟨a1, a2⟩ := a
    obtain ⟨b1, b2⟩ := b
    unfold lex
    simp only [Prod.mk.injEq]
    split
    · rename_i h
      rw [hg.eq]
      exact ⟨fun h' => ⟨(hf.eq _ _).1 h, h'⟩, fun h' => h'.2⟩
    · rename_i h
      exact ⟨fun h' => absurd h' h, fun h' => absurd ((hf.eq _ _).2 h'.1) h⟩
  · unfold lex
    rw [hf.neg a.1 b.1, hg.neg a.2 b.2]
    split <;> split <;> omega
  · unfold lex at *
    by_cases h3 : f a.1 b.1 = 0
    · rw [if_pos h3] at h1
      have e := (hf.eq _ _).1 h3
      rw [e]
      by_cases h4 : f b.1 c.1 = 0
      · rw [if_pos h4] at h2 ⊢
        exact hg.trans _ _ _ h1 h2
      · rw [if_neg h4] at h2 ⊢
        exact h2
    · rw [if_neg h3] at h1
      by_cases h4 : f b.1 c.1 = 0
      · have e := (hf.eq _ _).1 h4
        rw [← e, if_neg h3]; exact h1
      · rw [if_neg h4] at h2
        have := hf.trans _ _ _ h1 h2
        rw [if_neg (by omega)]; exact this
abbrev KeyT := List UInt8 × Int × Int × Int × List UInt8
def kap (x : ItI) : KeyT := (x.src, x.q, x.k, x.n, x.s)
def cmpK : KeyT → KeyT → Int := lex Lib.compareBytes (lex Lib.compareInt (lex Lib.compareInt (lex Lib.compareInt Lib.compareBytes)))
theorem ordK : Ord3 cmpK := ord_lex ord_bytes (ord_lex ord_int (ord_lex ord_int (ord_lex ord_int ord_bytes)))
theorem cmpI_kap (a b : ItI) : cmpI a b = cmpK (kap a) (kap b) := by
  unfold cmpI cmpV or3 cmpK lex kap
  rfl
theorem cmpK_irr (k : KeyT) : ¬ cmpK k k < 0 := by
  have := (ordK.eq k k).2 rfl
  omega
def ky (f : Bool) (x : ItI) : KeyT := kap (markI f x)
theorem ky_setC (f : Bool) (x : ItI) (c : Int) : ky f (x.setC c) = ky f x := by cases f <;> rfl
theorem ky_mark (f : Bool) (x : ItI) : ky f (markI f x) = ky f x := by cases f <;> rfl
theorem mark_eq {f : Bool} {x y : ItI} : markI f x = markI f y ↔ ky f x = ky f y := by
  refine ⟨fun h => by unfold ky; rw [h], fun h => ?_⟩
  cases f
  · unfold ky kap markI at h
    simp only [Bool.false_eq_true, if_false, Prod.mk.injEq] at h
    unfold markI
    simp [h]
  · unfold ky kap markI at h
    simp only [if_true, Prod.mk.injEq] at h
    unfold markI
    simp [h]
/-- marks stripped -/
def Nrm (f : Bool) (x : ItI) : Prop := (markI f x).setC x.c = x
theorem nrm_ext {f : Bool} {x y : ItI} (hx : Nrm f x) (hy : Nrm f y) (hk : ky f x = ky f y) (hc : x.c = y.c) : x = y := by
  rw [← hx, ← hy, mark_eq.2 hk, hc]
theorem nrm_mark (f : Bool) (x : ItI) (c : Int) : Nrm f ((markI f x).setC c) := by cases f <;> rfl
theorem nrm_setC {f : Bool} {x : ItI} (h : Nrm f x) (c : Int) : Nrm f (x.setC c) := by
  unfold Nrm at *
  cases f
  · have h1 : ([] : List UInt8) = x.src := congrArg ItI.src h
    have h2 : (0 : Int) = x.q := congrArg ItI.q h
    unfold markI
    simp [ItI.setC, ← h1, ← h2]
  · rfl
/-- sums -/
def sm (g : ItI → Int) : List ItI → Int
  | [] => 0
  | x :: l => g x + sm g l
theorem sm_append (g : ItI → Int) : ∀ a b, sm g (a ++ b) = sm g a + sm g b
  | [], b => by simp [sm]
  | x :: a, b => by simp only [List.cons_append, sm, sm_append g a b]; omega
theorem sm_perm (g : ItI → Int) {a b : List ItI} (h : a.Perm b) : sm g a = sm g b := by
  induction h with
  | nil => rfl
  | cons x _ ih => simp only [sm, ih]
  | swap x y l => simp only [sm]; omega
  | trans _ _ h1 h2 => omega
def cntG (f : Bool) (k : KeyT) (x : ItI) : Int := if ky f x = k then x.c else 0
abbrev cnt (f : Bool) (l : List ItI) (k : KeyT) : Int := sm (cntG f k) l
structure Srt (f : Bool) (l : List ItI) : Prop where
  asc : l.Pairwise fun a b => cmpK (ky f a) (ky f b) < 0
  nrm : ∀ x ∈ l, Nrm f x ∧ x.c ≠ 0 ∧ iOk x.c
theorem Srt.tail {f : Bool} {x : ItI} {l : List ItI} (h : Srt f (x :: l)) : Srt f l := ⟨(List.pairwise_cons.1 h.asc).2, fun y hy => h.nrm y (by simp [hy])⟩
theorem Srt.head {f : Bool} {x : ItI} {l : List ItI} (h : Srt f (x :: l)) : ∀ y ∈ l, cmpK (ky f x) (ky f y) < 0 := (List.pairwise_cons.1 h.asc).1
theorem srt_nil (f : Bool) : Srt f [] := ⟨List.Pairwise.nil, fun x h => by cases h⟩
theorem cnt_none {f : Bool} {k : KeyT} : ∀ {l : List ItI}, (∀ x ∈ l, ky f x ≠ k) → cnt f l k = 0
  | [], _ => rfl
  | x :: l, h => by
    have h1 := h x (by simp)
    have h2 := cnt_none (l := l) fun y hy => h y (by simp [hy])
    unfold cnt at h2 ⊢
    simp only [sm, h2, cntG, if_neg h1]; rfl
theorem cnt_lt {f : Bool} {k : KeyT} {l : List ItI} (h : ∀ x ∈ l, cmpK k (ky f x) < 0) : cnt f l k = 0 := cnt_none fun x hx e => by
  have := h x hx
  rw [e] at this; exact cmpK_irr k this
theorem cnt_head {f : Bool} {x : ItI} {l : List ItI} (h : Srt f (x :: l)) : cnt f (x :: l) (ky f x) = x.c := by
  have := cnt_lt h.head
  unfold cnt at this ⊢
  simp only [sm, this, cntG, if_true]; omega
theorem cnt_cons_ne {f : Bool} {x : ItI} {l : List ItI} {k : KeyT} (h : ky f x ≠ k) : cnt f (x :: l) k = cnt f l k := by
  unfold cnt
  simp only [sm, cntG, if_neg h]; omega
theorem cnt_iOk {f : Bool} : ∀ {l : List ItI}, Srt f l → ∀ k, iOk (cnt f l k)
  | [], _, k => by unfold cnt sm iOk; omega
  | x :: l, h, k => by
    by_cases e : ky f x = k
    · subst e; rw [cnt_head h]; exact (h.nrm x (by simp)).2.2
    · rw [cnt_cons_ne e]; exact cnt_iOk h.tail k
theorem srt_ext {f : Bool} : ∀ {a b : List ItI}, Srt f a → Srt f b → (∀ k, cnt f a k = cnt f b k) → a = b
  | [], [], _, _, _ => rfl
  | [], y :: b, _, hb, h => by
    have := h (ky f y)
    rw [cnt_head hb] at this
    exact absurd this.symm (hb.nrm y (by simp)).2.1
  | x :: a, [], ha, _, h => by
    have := h (ky f x)
    rw [cnt_head ha] at this
    exact absurd this (ha.nrm x (by simp)).2.1
  | x :: a, y :: b, ha, hb, h => by
    have h1 := h (ky f x)
    have h2 := h (ky f y)
    rw [cnt_head ha] at h1
    rw [cnt_head hb] at h2
    by_cases e : ky f x = ky f y
    · rw [e, cnt_head hb] at h1
      obtain rfl := nrm_ext (ha.nrm x (by simp)).1 (hb.nrm y (by simp)).1 e h1
      congr 1
      refine srt_ext ha.tail hb.tail fun k => ?_
      have := h k
      unfold cnt at this ⊢
      simp only [sm] at this
      omega
    · exfalso
      have hne : cmpK (ky f x) (ky f y) ≠ 0 := fun h0 => e ((ordK.eq _ _).1 h0)
      by_cases hlt : cmpK (ky f x) (ky f y) < 0
      · have : cnt f (y :: b) (ky f x) = 0 := cnt_lt fun z hz => by
          rcases List.mem_cons.1 hz with rfl | hz
          · exact hlt
          · exact ordK.trans _ _ _ hlt (hb.head z hz)
        rw [this] at h1
        exact (ha.nrm x (by simp)).2.1 h1
      · have hlt : cmpK (ky f y) (ky f x) < 0 := by rw [ordK.neg (ky f x)]; omega
        have : cnt f (x :: a) (ky f y) = 0 := cnt_lt fun z hz => by
          rcases List.mem_cons.1 hz with rfl | hz
          · exact hlt
          · exact ordK.trans _ _ _ hlt (ha.head z hz)
        rw [this] at h2
        exact (hb.nrm y (by simp)).2.1 h2.symm
end Go.Abs

namespace Go.Abs
open Go.Proofs Go.Proofs.K17 Go.RowKit
theorem w64_in {x : Int} (h : iOk x) : wrap64 x = x := Go.Proofs.K17.w64 h.1 (by have := h.2; omega)
theorem w64_0 : wrap64 0 = 0 := w64_in (by unfold iOk; omega)
theorem w64_iOk (x : Int) : iOk (wrap64 x) := by have := w64_range x; unfold iOk; omega
theorem w64_add (a b : Int) : wrap64 (wrap64 a + b) = wrap64 (a + b) := w64_congr (by have := w64_mod a; omega)
theorem w64_add2 (a b : Int) : wrap64 (a + wrap64 b) = wrap64 (a + b) := w64_congr (by have := w64_mod b; omega)
theorem addI_no {f : Bool} {m : ItI} {c : Int} : ∀ {l : List ItI}, addI f m c l = none → ∀ y ∈ l, markI f y ≠ m
  | [], _, y, hy => by cases hy
  | x :: l, h, y, hy => by
    unfold addI at h
    split at h
    · cases h
    · rename_i hx
      rcases List.mem_cons.1 hy with rfl | hy
      · exact hx
      · refine addI_no (c := c) (l := l) ?_ y hy
        cases hl : addI f m c l with
        | none => rfl
        | some t => rw [hl] at h; cases h
theorem addI_ok {f : Bool} {m : ItI} {c : Int} (hm : ∃ z, m = markI f z) : ∀ {l l' : List ItI}, Srt f l → addI f m c l = some l' →
    Srt f l' ∧ (∀ k, cnt f l' k = wrap64 (cnt f l k + if kap m = k then c else 0)) ∧ ∀ y ∈ l', ∃ z ∈ l, ky f y = ky f z
  | [], l', _, h => by cases h
  | x :: l, l', hs, h => by
    obtain ⟨z, rfl⟩ := hm
    unfold addI at h
    split at h
    · rename_i hx
      have hk : ky f x = kap (markI f z) := mark_eq.1 hx
      have other : ∀ k, ky f x ≠ k → cnt f l k = wrap64 (cnt f (x :: l) k + if kap (markI f z) = k then c else 0) := fun k hne => by
        rw [cnt_cons_ne hne, if_neg (by rw [← hk]; exact hne), Int.add_zero, w64_in (cnt_iOk hs.tail k)]
      injection h with h; subst h
      split
      · rename_i h0
        refine ⟨hs.tail, fun k => ?_, fun y hy => ⟨y, by simp [hy], rfl⟩⟩
        by_cases e : ky f x = k
        · subst e
          rw [cnt_head hs, cnt_lt hs.head, if_pos hk.symm, h0]
        · exact other k e
      · rename_i h0
        have hs' : Srt f (x.setC (wrap64 (x.c + c)) :: l) := by
          refine ⟨List.pairwise_cons.2 ⟨fun y hy => by rw [ky_setC]; exact hs.head y hy, hs.tail.asc⟩, fun y hy => ?_⟩
          rcases List.mem_cons.1 hy with rfl | hy
          · exact ⟨nrm_setC (hs.nrm x (by simp)).1 _, h0, w64_iOk _⟩
          · exact hs.nrm y (by simp [hy])
        refine ⟨hs', fun k => ?_, fun y hy => ?_⟩
        · by_cases e : ky f x = k
          · subst e
            have := cnt_head hs'
            rw [ky_setC] at this
            rw [this, cnt_head hs, if_pos hk.symm]; rfl
          · rw [cnt_cons_ne (by rw [ky_setC]; exact e)]; exact other k e
        · rcases List.mem_cons.1 hy with rfl | hy
          · exact ⟨x, by simp, ky_setC _ _ _⟩
          · exact ⟨y, by simp [hy], rfl⟩
    · rename_i hx
      cases hl : addI f (markI f z) c l with
      | none => rw [hl] at h; cases h
      | some t =>
        rw [hl] at h
        injection h with h; subst h
        obtain ⟨h1, h2, h3⟩ := addI_ok ⟨z, rfl⟩ hs.tail hl
        refine ⟨⟨List.pairwise_cons.2 ⟨fun y hy => ?_, h1.asc⟩, fun y hy => ?_⟩, fun k => ?_, fun y hy => ?_⟩
        · obtain ⟨w, hw, e⟩ := h3 y hy
          rw [e]; exact hs.head w hw
        · rcases List.mem_cons.1 hy with rfl | hy
          · exact hs.nrm y (by simp)
          · exact h1.nrm y hy
        · by_cases e : ky f x = k
          · subst e
            have : cnt f t (ky f x) = 0 := cnt_lt fun y hy => by
              obtain ⟨w, hw, e⟩ := h3 y hy
              rw [e]; exact hs.head w hw
            have hne : ¬ kap (markI f z) = ky f x := fun e => hx (mark_eq.2 e.symm)
            rw [if_neg hne, cnt_head hs, Int.add_zero, w64_in (hs.nrm x (by simp)).2.2]
            unfold cnt at this ⊢
            simp only [sm, this, cntG, if_true]; omega
          · rw [cnt_cons_ne e, cnt_cons_ne e]; exact h2 k
        · rcases List.mem_cons.1 hy with rfl | hy
          · exact ⟨y, by simp, rfl⟩
          · obtain ⟨w, hw, e⟩ := h3 y hy
            exact ⟨w, by simp [hw], e⟩
theorem putI_mem {f : Bool} {m : ItI} {c : Int} : ∀ {l : List ItI} {y : ItI}, y ∈ putI f m c l → y = m.setC c ∨ y ∈ l
  | [], y, h => by
    unfold putI at h
    exact .inl (List.mem_singleton.1 h)
  | x :: l, y, h => by
    unfold putI at h
    split at h
    · rcases List.mem_cons.1 h with h | h
      · exact .inl h
      · exact .inr h
    · rcases List.mem_cons.1 h with h | h
      · exact .inr (by simp [h])
      · rcases putI_mem h with h | h
        · exact .inl h
        · exact .inr (by simp [h])
theorem putI_ok {f : Bool} {z : ItI} {c : Int} (hc : c ≠ 0) (hi : iOk c) : ∀ {l : List ItI}, Srt f l → (∀ y ∈ l, markI f y ≠ markI f z) →
    Srt f (putI f (markI f z) c l) ∧ ∀ k, cnt f (putI f (markI f z) c l) k = wrap64 (cnt f l k + if ky f z = k then c else 0)
  | [], _, _ => by
    have hs : Srt f [(markI f z).setC c] := ⟨List.pairwise_singleton _ _, fun y hy => by obtain rfl := List.mem_singleton.1 hy; exact ⟨nrm_mark f z c, hc, hi⟩⟩
    refine ⟨hs, fun k => ?_⟩
    show cnt f [(markI f z).setC c] k = _
    unfold cnt
    simp only [sm, cntG, ky_setC, ky_mark]
    split
    · show c + 0 = _
      rw [Int.add_zero, Int.zero_add, w64_in hi]
    · exact w64_0.symm
  | x :: l, hs, hne => by
    have hx := hne x (by simp)
    have hkx : ky f x ≠ ky f z := fun e => hx (mark_eq.2 e)
    have hcm : cmpI (markI f x) (markI f z) = cmpK (ky f x) (ky f z) := cmpI_kap _ _
    have hn0 : cmpK (ky f x) (ky f z) ≠ 0 := fun h0 => hkx ((ordK.eq _ _).1 h0)
    unfold putI
    rw [hcm]
    split
    · rename_i hgt
      have hlt : cmpK (ky f z) (ky f x) < 0 := by rw [ordK.neg (ky f x)]; omega
      have hs' : Srt f ((markI f z).setC c :: x :: l) := by
        refine ⟨List.pairwise_cons.2 ⟨fun y hy => ?_, hs.asc⟩, fun y hy => ?_⟩
        · rw [ky_setC, ky_mark]
          rcases List.mem_cons.1 hy with rfl | hy
          · exact hlt
          · exact ordK.trans _ _ _ hlt (hs.head y hy)
        · rcases List.mem_cons.1 hy with rfl | hy
          · exact ⟨nrm_mark f z c, hc, hi⟩
          · exact hs.nrm y hy
      refine ⟨hs', fun k => ?_⟩
      by_cases e : ky f z = k
      · subst e
        have h1 := cnt_head hs'
        rw [ky_setC, ky_mark] at h1
        have h2 : cnt f (x :: l) (ky f z) = 0 := cnt_lt fun y hy => by
          rcases List.mem_cons.1 hy with rfl | hy
          · exact hlt
          · exact ordK.trans _ _ _ hlt (hs.head y hy)
        rw [h1, h2, if_pos rfl, Int.zero_add, w64_in hi]; rfl
      · rw [cnt_cons_ne (by rw [ky_setC, ky_mark]; exact e), if_neg e, Int.add_zero, w64_in (cnt_iOk hs k)]
    · rename_i hgt
      obtain ⟨h1, h2⟩ := putI_ok hc hi hs.tail fun y hy => hne y (by simp [hy])
      have hlt : cmpK (ky f x) (ky f z) < 0 := by omega
      have hs' : Srt f (x :: putI f (markI f z) c l) := by
        refine ⟨List.pairwise_cons.2 ⟨fun y hy => ?_, h1.asc⟩, fun y hy => ?_⟩
        · rcases putI_mem hy with rfl | hy
          · rw [ky_setC, ky_mark]; exact hlt
          · exact hs.head y hy
        · rcases List.mem_cons.1 hy with rfl | hy
          · exact hs.nrm y (by simp)
          · exact h1.nrm y hy
      refine ⟨hs', fun k => ?_⟩
      by_cases e : ky f x = k
      · subst e
        rw [cnt_head hs', cnt_head hs, if_neg (Ne.symm hkx), Int.add_zero, w64_in (hs.nrm x (by simp)).2.2]
      · rw [cnt_cons_ne e, cnt_cons_ne e]; exact h2 k
theorem insI_ok {f : Bool} {l : List ItI} (hs : Srt f l) {x : ItI} (hc : x.c ≠ 0) (hi : iOk x.c) : Srt f (insI f l x) ∧ ∀ k, cnt f (insI f l x) k = wrap64 (cnt f l k + cntG f k x) := by
  unfold insI
  cases ha : addI f (markI f x) x.c l with
  | some l' =>
    obtain ⟨h1, h2, _⟩ := addI_ok ⟨x, rfl⟩ hs ha
    exact ⟨h1, h2⟩
  | none => exact putI_ok hc hi hs (addI_no ha)
theorem insAll_ok {a : List ItI} (ha : Srt false a) : ∀ {m : List ItI}, (∀ x ∈ m, iOk x.c) → Srt false (insAll a m) ∧ ∀ k, cnt false (insAll a m) k = wrap64 (cnt false a k + cnt false m k) := by
  intro m
  induction m generalizing a with
  | nil =>
    intro _
    refine ⟨ha, fun k => ?_⟩
    have : cnt false ([] : List ItI) k = 0 := rfl
    rw [this, Int.add_zero, w64_in (cnt_iOk ha k)]; rfl
  | cons x m ih =>
    intro h
    have hx := h x (by simp)
    have hm : ∀ y ∈ m, iOk y.c := fun y hy => h y (by simp [hy])
    have e : ∀ k, cnt false (x :: m) k = cntG false k x + cnt false m k := fun k => rfl
    by_cases h0 : x.c = 0
    · have hi : insAll a (x :: m) = insAll a m := by unfold insAll; rw [List.foldl_cons, if_pos h0]
      rw [hi]
      obtain ⟨h1, h2⟩ := ih ha hm
      refine ⟨h1, fun k => ?_⟩
      rw [h2, e]
      have : cntG false k x = 0 := by unfold cntG; rw [h0]; split <;> rfl
      rw [this, Int.zero_add]
    · have hi : insAll a (x :: m) = insAll (insI false a x) m := by unfold insAll; rw [List.foldl_cons, if_neg h0]
      rw [hi]
      obtain ⟨g1, g2⟩ := insI_ok ha h0 hx
      obtain ⟨h1, h2⟩ := ih g1 hm
      refine ⟨h1, fun k => ?_⟩
      rw [h2, g2, w64_add, e, Int.add_assoc]
/-- what a state is of a list -/
def gT (x : ItI) : Int := x.n * x.c
def gB (k : Int) (x : ItI) : Int := if idx x.n = k then x.c else 0
structure StOf (fam : Fam) (s : StI) (L : List ItI) : Prop where
  n : s.n = wrap64 (sm ItI.c L)
  w : (fam = .sum → s.h = whi (sm gT L) ∧ s.l = wlo (sm gT L)) ∧ (fam ≠ .sum → s.h = 0 ∧ s.l = 0)
  i : (∀ f, fam = .keep f → Srt f s.its ∧ ∀ k, cnt f s.its k = wrap64 (cnt f L k)) ∧ ((∀ f, fam ≠ .keep f) → s.its = [])
  b : (fam = .smp → Asc s.bks ∧ WfB s.bks ∧ ∀ k, tot s.bks k = wrap64 (sm (gB k) L)) ∧ (fam ≠ .smp → s.bks = [])
structure Eqv (L M : List ItI) : Prop where
  n : sm ItI.c L = sm ItI.c M
  t : sm gT L = sm gT M
  c : ∀ f k, cnt f L k = cnt f M k
  b : ∀ k, sm (gB k) L = sm (gB k) M
theorem Eqv.perm {L M : List ItI} (h : L.Perm M) : Eqv L M := ⟨sm_perm _ h, sm_perm _ h, fun _ _ => sm_perm _ h, fun _ => sm_perm _ h⟩
theorem Eqv.refl (L : List ItI) : Eqv L L := .perm (.refl L)
theorem StOf.eqv {fam : Fam} {s : StI} {L M : List ItI} (h : StOf fam s L) (e : Eqv L M) : StOf fam s M :=
  ⟨by rw [h.n, e.n], ⟨fun hf => by rw [← e.t]; exact h.w.1 hf, h.w.2⟩, ⟨fun f hf => ⟨(h.i.1 f hf).1, fun k => by rw [(h.i.1 f hf).2, e.c]⟩, h.i.2⟩, ⟨fun hf => ⟨(h.b.1 hf).1, (h.b.1 hf).2.1, fun k => by rw [(h.b.1 hf).2.2, e.b]⟩, h.b.2⟩⟩
theorem StOf.unique {fam : Fam} {s s' : StI} {L : List ItI} (h : StOf fam s L) (h' : StOf fam s' L) : s = s' := by
  rw [st_eq]
  refine ⟨by rw [h.n, h'.n], ?_, ?_, ?_, ?_⟩
  · by_cases hf : fam = .sum
    · rw [(h.w.1 hf).1, (h'.w.1 hf).1]
    · rw [(h.w.2 hf).1, (h'.w.2 hf).1]
  · by_cases hf : fam = .sum
    · rw [(h.w.1 hf).2, (h'.w.1 hf).2]
    · rw [(h.w.2 hf).2, (h'.w.2 hf).2]
  · by_cases hf : ∃ f, fam = .keep f
    · obtain ⟨f, hf⟩ := hf
      exact srt_ext (h.i.1 f hf).1 (h'.i.1 f hf).1 fun k => by rw [(h.i.1 f hf).2, (h'.i.1 f hf).2]
    · rw [h.i.2 fun f e => hf ⟨f, e⟩, h'.i.2 fun f e => hf ⟨f, e⟩]
  · by_cases hf : fam = .smp
    · exact asc_ext (h.b.1 hf).1 (h.b.1 hf).2.1 (h'.b.1 hf).1 (h'.b.1 hf).2.1 fun k => by rw [(h.b.1 hf).2.2, (h'.b.1 hf).2.2]
    · rw [h.b.2 hf, h'.b.2 hf]
theorem asc_nil : Asc [] := ⟨List.Pairwise.nil, fun x h => by cases h⟩
theorem stOf_z (fam : Fam) : StOf fam StI.z [] := by
  refine ⟨w64_0.symm, ⟨fun _ => ⟨whi0.symm, rfl⟩, fun _ => ⟨rfl, rfl⟩⟩, ⟨fun f _ => ⟨srt_nil f, fun k => w64_0.symm⟩, fun _ => rfl⟩, ⟨fun _ => ⟨asc_nil, nil_wf, fun k => w64_0.symm⟩, fun _ => rfl⟩⟩
theorem sm_snoc (g : ItI → Int) (L : List ItI) (x : ItI) : sm g (L ++ [x]) = sm g L + g x := by
  rw [sm_append]; show _ + (g x + 0) = _; omega
end Go.Abs

namespace Go.Abs
open Go.Proofs Go.Proofs.K17 Go.RowKit
theorem g0 {x : ItI} (h : x.c = 0) : gT x = 0 ∧ (∀ f k, cntG f k x = 0) ∧ ∀ k, gB k x = 0 := by
  refine ⟨by unfold gT; rw [h, Int.mul_zero], fun f k => ?_, fun k => ?_⟩
  · unfold cntG; rw [h]; split <;> rfl
  · unfold gB; rw [h]; split <;> rfl
theorem eqv_zero {L : List ItI} {x : ItI} (h : x.c = 0) : Eqv L (L ++ [x]) := by
  obtain ⟨h1, h2, h3⟩ := g0 h
  refine ⟨?_, ?_, fun f k => ?_, fun k => ?_⟩
  · rw [sm_snoc, h, Int.add_zero]
  · rw [sm_snoc, h1, Int.add_zero]
  · show _ = sm _ _; rw [sm_snoc, h2, Int.add_zero]
  · rw [sm_snoc, h3, Int.add_zero]
theorem sg_w {s : StI} {T : Int} (h : s.h = whi T ∧ s.l = wlo T) : wv s.h s.l = sg T := by rw [h.1, h.2, wv_sg]
theorem whi_sg (x y : Int) : whi (sg x + y) = whi (x + y) := whi_congr (by have := sg_mod x; omega)
theorem wlo_sg (x y : Int) : wlo (sg x + y) = wlo (x + y) := wlo_congr (by have := sg_mod x; omega)
theorem whi_sg2 (x y : Int) : whi (sg x + sg y) = whi (x + y) := whi_congr (by have := sg_mod x; have := sg_mod y; omega)
theorem wlo_sg2 (x y : Int) : wlo (sg x + sg y) = wlo (x + y) := wlo_congr (by have := sg_mod x; have := sg_mod y; omega)
theorem stOf_put {fam : Fam} {s : StI} {L : List ItI} (h : StOf fam s L) {x : ItI} (hx : itOk x) (hc : x.c ≠ 0) : StOf fam (putP fam s x) (L ++ [x]) := by
  have hn : ∀ s' : StI, s'.n = wrap64 (s.n + x.c) → s'.n = wrap64 (sm ItI.c (L ++ [x])) := fun s' e => by rw [e, h.n, w64_add, sm_snoc]
  cases fam with
  | cnt => exact ⟨hn _ rfl, ⟨fun e => (nomatch e), fun _ => ⟨rfl, rfl⟩⟩, ⟨fun f e => (nomatch e), fun _ => rfl⟩, ⟨fun e => (nomatch e), fun _ => rfl⟩⟩
  | sum =>
    refine ⟨hn _ rfl, ⟨fun _ => ?_, fun e => absurd rfl e⟩, ⟨fun f e => (nomatch e), fun _ => rfl⟩, ⟨fun e => (nomatch e), fun _ => rfl⟩⟩
    have e := sg_w (h.w.1 rfl)
    show whi (wv s.h s.l + x.n * x.c) = _ ∧ wlo (wv s.h s.l + x.n * x.c) = _
    rw [e, whi_sg, wlo_sg, sm_snoc]
    exact ⟨rfl, rfl⟩
  | smp =>
    refine ⟨hn _ rfl, ⟨fun e => (nomatch e), fun _ => ⟨rfl, rfl⟩⟩, ⟨fun f e => (nomatch e), fun _ => rfl⟩, ⟨fun _ => ?_, fun e => absurd rfl e⟩⟩
    obtain ⟨b1, b2, b3⟩ := h.b.1 rfl
    obtain ⟨n1, n2, n3⟩ := norm_ok (one_wf hx b2)
    refine ⟨n1, n2, fun k => ?_⟩
    show tot (normB (s.bks ++ [(idx x.n, x.c)])) k = _
    rw [n3, tot_snoc, sm_snoc, b3]
    unfold gB
    split
    · rw [w64_add]
    · rw [Int.add_zero]
  | keep f =>
    refine ⟨hn _ rfl, ⟨fun e => (nomatch e), fun _ => ⟨rfl, rfl⟩⟩, ⟨fun f' e => ?_, fun e => absurd rfl (e f)⟩, ⟨fun e => (nomatch e), fun _ => rfl⟩⟩
    injection e with e; subst e
    obtain ⟨i1, i2⟩ := h.i.1 f rfl
    obtain ⟨g1, g2⟩ := insI_ok i1 hc hx.2
    refine ⟨g1, fun k => ?_⟩
    show cnt f (insI f s.its x) k = wrap64 (sm _ _)
    rw [g2, i2, w64_add, sm_snoc]
theorem stOf_add {op : List UInt8} {fam : Fam} (hf : famO op = some fam) {s : StI} {L : List ItI} (h : StOf fam s L) {x : ItI} (hx : itOk x) : StOf fam (addP op s x) (L ++ [x]) := by
  unfold addP
  rw [hf]
  simp only
  split
  · rename_i h0; exact h.eqv (eqv_zero h0)
  · rename_i h0; exact stOf_put h hx h0
theorem stOf_fold {op : List UInt8} {fam : Fam} (hf : famO op = some fam) : ∀ {l : List ItI} {s : StI} {L : List ItI}, StOf fam s L → (∀ x ∈ l, itOk x) → StOf fam (l.foldl (addP op) s) (L ++ l)
  | [], s, L, h, _ => by rw [List.append_nil]; exact h
  | x :: l, s, L, h, hx => by
    have := stOf_fold hf (l := l) (stOf_add hf h (hx x (by simp))) fun y hy => hx y (by simp [hy])
    rw [List.append_assoc] at this
    exact this
theorem stOf_of {op : List UInt8} {fam : Fam} (hf : famO op = some fam) {l : List ItI} (hx : ∀ x ∈ l, itOk x) : StOf fam (ofP op l) l := by
  have := stOf_fold hf (stOf_z fam) hx
  rw [List.nil_append] at this
  exact this
theorem stOf_join {fam : Fam} (hk : fam ≠ .keep true) {a b : StI} {L M : List ItI} (ha : StOf fam a L) (hb : StOf fam b M) : StOf fam (joinP fam a b) (L ++ M) := by
  have hn : ∀ s' : StI, s'.n = wrap64 (a.n + b.n) → s'.n = wrap64 (sm ItI.c (L ++ M)) := fun s' e => by rw [e, ha.n, hb.n, w64_add, w64_add2, sm_append]
  cases fam with
  | cnt => exact ⟨hn _ rfl, ⟨fun e => (nomatch e), fun _ => ⟨rfl, rfl⟩⟩, ⟨fun f e => (nomatch e), fun _ => rfl⟩, ⟨fun e => (nomatch e), fun _ => rfl⟩⟩
  | sum =>
    refine ⟨hn _ rfl, ⟨fun _ => ?_, fun e => absurd rfl e⟩, ⟨fun f e => (nomatch e), fun _ => rfl⟩, ⟨fun e => (nomatch e), fun _ => rfl⟩⟩
    show whi (wv a.h a.l + wv b.h b.l) = _ ∧ wlo (wv a.h a.l + wv b.h b.l) = _
    rw [sg_w (ha.w.1 rfl), sg_w (hb.w.1 rfl), whi_sg2, wlo_sg2, sm_append]
    exact ⟨rfl, rfl⟩
  | smp =>
    refine ⟨hn _ rfl, ⟨fun e => (nomatch e), fun _ => ⟨rfl, rfl⟩⟩, ⟨fun f e => (nomatch e), fun _ => rfl⟩, ⟨fun _ => ?_, fun e => absurd rfl e⟩⟩
    obtain ⟨a1, a2, a3⟩ := ha.b.1 rfl
    obtain ⟨b1, b2, b3⟩ := hb.b.1 rfl
    have hw : WfB (a.bks ++ b.bks) := fun y hy => by
      rcases List.mem_append.1 hy with h | h
      · exact a2 y h
      · exact b2 y h
    obtain ⟨n1, n2, n3⟩ := norm_ok hw
    refine ⟨n1, n2, fun k => ?_⟩
    show tot (normB (a.bks ++ b.bks)) k = _
    rw [n3, tot_append b1 b2, a3, b3, w64_add, w64_add2, sm_append]
  | keep f =>
    cases f with
    | true => exact absurd rfl hk
    | false =>
      refine ⟨hn _ rfl, ⟨fun e => (nomatch e), fun _ => ⟨rfl, rfl⟩⟩, ⟨fun f' e => ?_, fun e => absurd rfl (e false)⟩, ⟨fun e => (nomatch e), fun _ => rfl⟩⟩
      injection e with e; subst e
      obtain ⟨a1, a2⟩ := ha.i.1 false rfl
      obtain ⟨b1, b2⟩ := hb.i.1 false rfl
      obtain ⟨g1, g2⟩ := insAll_ok a1 fun x hx => (b1.nrm x hx).2.2
      refine ⟨g1, fun k => ?_⟩
      show cnt false (insAll a.its b.its) k = wrap64 (sm _ _)
      rw [g2, a2, b2, w64_add, w64_add2, sm_append]
/-- every mark of one ahead of every mark of the other -/
def Bef (L M : List ItI) : Prop := ∀ x ∈ L, ∀ y ∈ M, cmpK (ky true x) (ky true y) < 0
theorem bef_of {a b : List ItI} (h : befP a b = true) : Bef a b := fun x hx y hy => by
  unfold befP at h
  have h := List.all_eq_true.1 (List.all_eq_true.1 h x hx) y hy
  unfold notB at h
  simp only [Bool.not_eq_true', Bool.or_eq_false_iff, Bool.not_eq_false', Bool.and_eq_false_iff, Bool.or_eq_true, beq_iff_eq, decide_eq_false_iff_not] at h
  obtain ⟨h1, h2⟩ := h
  unfold cmpK ky kap markI lex
  simp only [if_true]
  by_cases e : Lib.compareBytes x.src y.src = 0
  · rw [if_pos e]
    have es := (ord_bytes.eq _ _).1 e
    have hq : x.q < y.q := by
      rcases h2 with h2 | h2
      · rw [es] at h2; simp at h2
      · omega
    have : Lib.compareInt x.q y.q = -1 := by unfold Lib.compareInt; rw [if_pos hq]
    rw [this, if_neg (by decide)]
    decide
  · rw [if_neg e]
    rcases h1 with h1 | h1
    · exact (bl_iff _ _).1 h1
    · exact absurd ((ord_bytes.eq _ _).2 h1) e
theorem cnt_mem {f : Bool} {k : KeyT} {L : List ItI} (h : cnt f L k ≠ 0) : ∃ x ∈ L, ky f x = k :=
  Classical.byContradiction fun hn => h (cnt_none fun x hx e => hn ⟨x, hx, e⟩)
theorem srt_mem {f : Bool} : ∀ {l : List ItI}, Srt f l → ∀ {x : ItI}, x ∈ l → cnt f l (ky f x) = x.c
  | y :: l, h, x, hx => by
    rcases List.mem_cons.1 hx with rfl | hx
    · exact cnt_head h
    · rw [cnt_cons_ne fun e => ?_]
      · exact srt_mem h.tail hx
      · have := h.head x hx
        rw [e] at this; exact cmpK_irr _ this
theorem stOf_join_keep {a b : StI} {L M : List ItI} (ha : StOf (.keep true) a L) (hb : StOf (.keep true) b M) (hB : Bef L M) : StOf (.keep true) (joinP (.keep true) a b) (L ++ M) := by
  obtain ⟨a1, a2⟩ := ha.i.1 true rfl
  obtain ⟨b1, b2⟩ := hb.i.1 true rfl
  have from_ : ∀ {l : List ItI} {N : List ItI}, Srt true l → (∀ k, cnt true l k = wrap64 (cnt true N k)) → ∀ z ∈ l, ∃ x ∈ N, ky true x = ky true z := fun hs hk z hz => by
    refine cnt_mem fun e => ?_
    have := srt_mem hs hz
    rw [hk, e, w64_0] at this
    exact (hs.nrm z hz).2.1 this.symm
  refine ⟨?_, ⟨fun e => (nomatch e), fun _ => ⟨rfl, rfl⟩⟩, ⟨fun f' e => ?_, fun e => absurd rfl (e true)⟩, ⟨fun e => (nomatch e), fun _ => rfl⟩⟩
  · show wrap64 (a.n + b.n) = _
    rw [ha.n, hb.n, w64_add, w64_add2, sm_append]
  · injection e with e; subst e
    show Srt true (a.its ++ b.its) ∧ ∀ k, cnt true (a.its ++ b.its) k = wrap64 (sm _ _)
    refine ⟨⟨List.pairwise_append.2 ⟨a1.asc, b1.asc, fun x hx y hy => ?_⟩, fun x hx => ?_⟩, fun k => ?_⟩
    · obtain ⟨x', hx', ex⟩ := from_ a1 a2 x hx
      obtain ⟨y', hy', ey⟩ := from_ b1 b2 y hy
      rw [← ex, ← ey]; exact hB x' hx' y' hy'
    · rcases List.mem_append.1 hx with hx | hx
      · exact a1.nrm x hx
      · exact b1.nrm x hx
    · rw [cnt, sm_append, sm_append]
      show cnt true a.its k + cnt true b.its k = _
      rw [a2, b2]
      show _ = wrap64 (cnt true L k + cnt true M k)
      by_cases h0 : cnt true L k = 0
      · rw [h0, w64_0, Int.zero_add, Int.zero_add]
      · have hM : cnt true M k = 0 := Classical.byContradiction fun hM => by
          obtain ⟨x, hx, ex⟩ := cnt_mem h0
          obtain ⟨y, hy, ey⟩ := cnt_mem hM
          have := hB x hx y hy
          rw [ex, ey] at this
          exact cmpK_irr _ this
        rw [hM, w64_0, Int.add_zero, Int.add_zero]
/-! laws of Merge -/
theorem merge_join {op : List UInt8} {fam : Fam} (hf : famO op = some fam) (a b : StI) : mergeP op a b = joinP fam a b := by unfold mergeP; rw [hf]
theorem merge_assoc {op : List UInt8} {fam : Fam} (hf : famO op = some fam) {a b c : StI} {L M N : List ItI} (ha : StOf fam a L) (hb : StOf fam b M) (hc : StOf fam c N) :
    mergeP op (mergeP op a b) c = mergeP op a (mergeP op b c) := by
  simp only [merge_join hf]
  by_cases hk : fam = .keep true
  · subst hk
    show StI.mk _ _ _ _ _ = StI.mk _ _ _ _ _
    show StI.mk (wrap64 (wrap64 (a.n + b.n) + c.n)) 0 0 ((a.its ++ b.its) ++ c.its) [] = StI.mk (wrap64 (a.n + wrap64 (b.n + c.n))) 0 0 (a.its ++ (b.its ++ c.its)) []
    rw [w64_add, w64_add2, List.append_assoc, Int.add_assoc]
  · have h1 := stOf_join hk (stOf_join hk ha hb) hc
    have h2 := stOf_join hk ha (stOf_join hk hb hc)
    rw [List.append_assoc] at h1
    exact h1.unique h2
theorem keep_form {s : StI} {L : List ItI} (h : StOf (.keep true) s L) : s = ⟨s.n, 0, 0, s.its, []⟩ := by
  rw [st_eq]
  exact ⟨rfl, (h.w.2 (by simp)).1, (h.w.2 (by simp)).2, rfl, h.b.2 (by simp)⟩
theorem stOf_w {fam : Fam} {s : StI} {L : List ItI} (h : StOf fam s L) : wrap64 s.n = s.n := by
  rw [h.n]; exact w64_in (w64_iOk _)
theorem merge_zl {op : List UInt8} {fam : Fam} (hf : famO op = some fam) {a : StI} {L : List ItI} (ha : StOf fam a L) : mergeP op StI.z a = a := by
  rw [merge_join hf]
  by_cases hk : fam = .keep true
  · subst hk
    show StI.mk (wrap64 (0 + a.n)) 0 0 ([] ++ a.its) [] = a
    rw [Int.zero_add, stOf_w ha, List.nil_append]; exact (keep_form ha).symm
  · exact (stOf_join hk (stOf_z fam) ha).unique ha
theorem merge_zr {op : List UInt8} {fam : Fam} (hf : famO op = some fam) {a : StI} {L : List ItI} (ha : StOf fam a L) : mergeP op a StI.z = a := by
  rw [merge_join hf]
  by_cases hk : fam = .keep true
  · subst hk
    show StI.mk (wrap64 (a.n + 0)) 0 0 (a.its ++ []) [] = a
    rw [Int.add_zero, stOf_w ha, List.append_nil]; exact (keep_form ha).symm
  · have := stOf_join hk ha (stOf_z fam)
    rw [List.append_nil] at this
    exact this.unique ha
theorem merge_of {op : List UInt8} {fam : Fam} (hf : famO op = some fam) {a b : List ItI} (ha : ∀ x ∈ a, itOk x) (hb : ∀ x ∈ b, itOk x) (hB : fam = .keep true → Bef a b) : mergeP op (ofP op a) (ofP op b) = ofP op (a ++ b) := by
  have hab : ∀ x ∈ a ++ b, itOk x := fun x hx => by
    rcases List.mem_append.1 hx with h | h
    · exact ha x h
    · exact hb x h
  have h2 := stOf_of hf hab
  rw [merge_join hf]
  by_cases hk : fam = .keep true
  · subst hk
    exact (stOf_join_keep (stOf_of hf ha) (stOf_of hf hb) (hB rfl)).unique h2
  · exact (stOf_join hk (stOf_of hf ha) (stOf_of hf hb)).unique h2
end Go.Abs

namespace Go.Abs
open Go.Proofs Go.Proofs.K17 Go.RowKit
theorem r11 {l : List ItI} (h : l.length ≤ maxLen) : tbl tMe 11 [.sl 6 (itsL l) .no] = some (.bool (smallP l), []) := by
  rw [tb_miss (by decide), tb_miss (by decide), tb_hit]; simp only [s11, show unL unI (itsL l) = some l from unL_map unI_ok l]
  rw [if_pos ⟨.inl trivial, h⟩]
theorem r12 {op : List UInt8} {l : List ItI} (h : l.length ≤ 1000) (hx : ∀ x ∈ l, itOk x) : tbl tMe 12 [.str op, .sl 6 (itsL l) .no] = some (stA (ofP op l), []) := by
  rw [tb_miss (by decide), tb_miss (by decide), tb_miss (by decide), tb_hit]; simp only [s12, show unL unI (itsL l) = some l from unL_map unI_ok l]
  rw [if_pos ⟨.inl trivial, h, hx⟩]
theorem r13 {a b : StI} (h1 : a.its.length ≤ 2000000) (h2 : a.bks.length ≤ 2000000) (h : a = b) : tbl tMe 13 [.agg (stC a), .agg (stC b)] = some (.bool true, []) := by
  rw [tb_miss (by decide), tb_miss (by decide), tb_miss (by decide), tb_miss (by decide), tb_hit]
  simp only [s13, show unSt (.agg (stC a)) = some a from unSt_ok a, show unSt (.agg (stC b)) = some b from unSt_ok b]
  rw [if_pos ⟨h1, h2⟩, decide_eq_true h]
theorem r15 {op : List UInt8} {a b : StI} {n m : Nat} (ha : StB a n) (hb : StB b m) (h : n + m ≤ 1000000) : tbl tMe 15 [.str op, .agg (stC a), .agg (stC b)] = some (stA (mergeP op a b), []) := by
  rw [tb_miss (by decide), tb_miss (by decide), tb_miss (by decide), tb_miss (by decide), tb_miss (by decide), tb_hit]
  simp only [s15, show unSt (.agg (stC a)) = some a from unSt_ok a, show unSt (.agg (stC b)) = some b from unSt_ok b]
  have := ha.i
  have := hb.i
  rw [if_pos ⟨ha.ok (by omega), hb.ok (by omega), by omega⟩]
theorem r17 {a b : List ItI} (ha : a.length ≤ maxLen) (hb : b.length ≤ maxLen) : tbl tMe 17 [.sl 6 (itsL a) .no, .sl 6 (itsL b) .no] = some (.bool (befP a b), []) := by
  rw [tb_miss (by decide), tb_miss (by decide), tb_miss (by decide), tb_miss (by decide), tb_miss (by decide), tb_miss (by decide), tb_miss (by decide), tb_hit]
  simp only [s17, show unL unI (itsL a) = some a from unL_map unI_ok a, show unL unI (itsL b) = some b from unL_map unI_ok b]
  rw [if_pos ⟨.inl trivial, .inl trivial, ha, hb⟩]
theorem small_len {l : List ItI} (h : smallP l = true) : l.length ≤ 40 := by
  unfold smallP at h
  simp only [Bool.and_eq_true, decide_eq_true_eq] at h
  exact h.2
theorem keep_op {op : List UInt8} (h : famO op = some (.keep true)) : op = bFirst ∨ op = bLast := by
  unfold famO at h
  repeat' split at h
  all_goals first | exact .inl (by assumption) | exact .inr (by assumption) | cases h
theorem its_nil {l : List ItI} (h : itsL l = []) : l = [] := List.map_eq_nil_iff.1 h
theorem p5 (op : List UInt8) (a b c : List ItI) (ha : a.length ≤ maxLen) (hb : b.length ≤ maxLen) (hc : c.length ≤ maxLen) (oa : ∀ x ∈ a, itOk x) (ob : ∀ x ∈ b, itOk x) (oc : ∀ x ∈ c, itOk x) :
    PureOk PA GA XL RMe (itbl []) (a5 op a b c) [] 5 [.str op, .sl 6 (itsL a) .no, .sl 6 (itsL b) .no, .sl 6 (itsL c) .no] (.bool true, []) := by
  constructor
  rw [w5]
  unfold RMe
  have yes : RetIs (AV.bool true) [] (AV.bool true, []) := retIs_iff.2 rfl
  refine ⟨callIs_iff.2 rfl, fun _ => ⟨_, callIs_iff.2 rfl, fun hk => ⟨_, callIs_iff.2 (r11 ha), fun h1 => ⟨_, callIs_iff.2 (r11 hb), fun h2 => ⟨_, callIs_iff.2 (r11 hc), fun h3 => ?_, fun _ => yes⟩, fun _ => yes⟩, fun _ => yes⟩, fun _ => yes⟩, fun h => (nomatch h)⟩
  have h1 := small_len h1
  have h2 := small_len h2
  have h3 := small_len h3
  obtain ⟨fam, hf⟩ := Option.isSome_iff_exists.1 hk
  have Ba := ofP_ok op oa
  have Bb := ofP_ok op ob
  have Bc := ofP_ok op oc
  have Sa := stOf_of hf oa
  have Sb := stOf_of hf ob
  have Sc := stOf_of hf oc
  have Bab := stB_merge Ba Bb op
  have Bbc := stB_merge Bb Bc op
  have B1 : StB (stM1 op a b c) (a.length + b.length + c.length) := stB_merge Bab Bc op
  have len2 : ∀ {s : StI} {n : Nat}, StB s n → n ≤ 1000 → s.its.length ≤ 2000000 ∧ s.bks.length ≤ 2000000 := fun h hn => ⟨by have := h.i; omega, by have := h.k; omega⟩
  refine ⟨⟨_, _, _, _, _, callIs_iff.2 (r12 (by omega) oa), _, _, _, _, _, callIs_iff.2 (r12 (by omega) ob), _, _, _, _, _, callIs_iff.2 (r12 (by omega) oc), (), ⟨rfl⟩, ⟨rfl⟩, trivial, trivial⟩, fun _ _ _ =>
    ⟨⟨_, _, _, _, _, callIs_iff.2 (r15 Ba Bb (by omega)), _, _, _, _, _, callIs_iff.2 (r15 Bab Bc (by omega)), (), ⟨rfl⟩, ⟨rfl⟩, trivial, trivial⟩, fun _ _ _ =>
    ⟨⟨_, _, _, _, _, callIs_iff.2 (r15 Bb Bc (by omega)), _, _, _, _, _, callIs_iff.2 (r15 Ba Bbc (by omega)), (), ⟨rfl⟩, ⟨rfl⟩, trivial, trivial⟩, fun _ _ _ => ⟨?_, fun _ _ _ => ⟨?_, fun _ hI _ => ?_⟩⟩⟩⟩⟩
  · refine ⟨true, callIs_iff.2 (r13 (len2 B1 (by omega)).1 (len2 B1 (by omega)).2 (merge_assoc hf Sa Sb Sc)), fun _ => ⟨_, _, _, _, _, callIs_iff.2 rfl, _, _, _, _, _, callIs_iff.2 (r15 (a := StI.z) (n := 0) stB_z Ba (by omega)), true, callIs_iff.2 (r13 ?_ ?_ (merge_zl hf Sa)), fun _ => ⟨_, _, _, _, _, callIs_iff.2 rfl, _, _, _, _, _, callIs_iff.2 (r15 (b := StI.z) (m := 0) Ba stB_z (by omega)), true, callIs_iff.2 (r13 ?_ ?_ (merge_zr hf Sa)), fun _ => ⟨(), ⟨rfl⟩, ⟨rfl⟩, trivial, trivial⟩, fun h => (nomatch h)⟩, fun h => (nomatch h)⟩, fun h => (nomatch h)⟩
    · rw [merge_zl hf Sa]; exact (len2 Ba (by omega)).1
    · rw [merge_zl hf Sa]; exact (len2 Ba (by omega)).2
    · rw [merge_zr hf Sa]; exact (len2 Ba (by omega)).1
    · rw [merge_zr hf Sa]; exact (len2 Ba (by omega)).2
  · refine ⟨fun d => ⟨_, callIs_iff.2 (r17 ha hb), fun e => ⟨(), ⟨rfl⟩, ⟨rfl⟩, fun _ => e, trivial⟩, fun _ => yes⟩, fun d => ⟨fun g => ⟨_, callIs_iff.2 (r17 ha hb), fun e => ⟨(), ⟨rfl⟩, ⟨rfl⟩, fun _ => e, trivial⟩, fun _ => yes⟩, fun g => ⟨(), ⟨rfl⟩, ⟨rfl⟩, fun h => ?_, trivial⟩⟩⟩
    rcases h with h | h
    · subst h; exact absurd d (by decide)
    · subst h; exact absurd g (by decide)
  · have hM := merge_of hf oa ob fun hk => bef_of (hI (keep_op (by rw [hf, hk])))
    have hL := len2 Bab (by omega)
    have oab : ∀ x ∈ a ++ b, itOk x := fun x hx => by
      rcases List.mem_append.1 hx with h | h
      · exact oa x h
      · exact ob x h
    have tail : ∀ {l : List ItI}, l = a ++ b → ∃ (b_1 : Bool), CallIs (tbl tMe 13 [.agg (stC (mergeP op (ofP op a) (ofP op b))), .agg (stC (ofP op l))]) (.bool b_1) [] ∧ (b_1 = true → RetIs (.bool true) [] (.bool true, [])) ∧ (b_1 = false → RetIs (.bool false) [] (.bool true, [])) := fun {l} e =>
      ⟨true, callIs_iff.2 (r13 hL.1 hL.2 (by rw [e]; exact hM)), fun _ => yes, fun h => (nomatch h)⟩
    refine ⟨_, _, _, _, _, callIs_iff.2 (r15 Ba Bb (by omega)), .inl rfl, by rw [len_its]; omega, fun ea => ⟨.inl rfl, by rw [len_its]; omega, fun eb => ?_, fun eb => ?_⟩, fun ea => ⟨.inl rfl, by rw [List.nil_append, len_its, len_its]; omega, by rw [List.nil_append, Nat.zero_add], ?_⟩⟩
    · have ea := its_nil ea
      have eb := its_nil eb
      subst ea eb
      exact ⟨_, _, _, _, _, callIs_iff.2 rfl, tail (l := []) rfl⟩
    · have ea := its_nil ea
      subst ea
      exact ⟨_, _, _, _, _, callIs_iff.2 (r12 (by omega) ob), tail (l := b) rfl⟩
    · have e : itsL a ++ itsL b = itsL (a ++ b) := (List.map_append ..).symm
      rw [List.nil_append, e]
      exact ⟨_, _, _, _, _, callIs_iff.2 (r12 (by rw [List.length_append]; omega) oab), tail (l := a ++ b) rfl⟩
theorem o5 : SpecOk PA GA 5 s5 := spec_wkS fun args r h => by
  unfold s5 at h
  split at h
  case h_2 => cases h
  split at h
  case h_2 => cases h
  rename_i a b c ha hb hc
  split at h
  case isFalse => cases h
  rename_i hh
  obtain ⟨z1, z2, z3, ⟨l1, l2, l3⟩, oa, ob, oc⟩ := hh
  injection h with h; subst h
  obtain rfl := unL_inv unI_inv ha
  obtain rfl := unL_inv unI_inv hb
  obtain rfl := unL_inv unI_inv hc
  rw [List.map_cons, List.map_cons, List.map_cons, List.map_cons, List.map_nil, wk_its z1, wk_its z2, wk_its z3]
  have hR : CalleeOk PA GA RMe := tbl_cons o7 (tbl_cons o10 (tbl_cons o11 (tbl_cons o12 (tbl_cons o13 (tbl_cons o15 (tbl_cons o16 (tbl_cons o17 tbl_nil)))))))
  exact one_pure mixedA hR itbl_nil (p5 _ a b c l1 l2 l3 oa ob oc)
theorem s5_true (op : List UInt8) (a b c : List ItI) (na : a.length ≤ maxLen ∧ ∀ x ∈ a, itOk x) (nb : b.length ≤ maxLen ∧ ∀ x ∈ b, itOk x) (nc : c.length ≤ maxLen ∧ ∀ x ∈ c, itOk x) : s5 [.str op, .sl 6 (itsL a) .no, .sl 6 (itsL b) .no, .sl 6 (itsL c) .no] = some (.bool true, []) := by
  simp only [s5, show unL unI (itsL a) = some a from unL_map unI_ok a, show unL unI (itsL b) = some b from unL_map unI_ok b, show unL unI (itsL c) = some c from unL_map unI_ok c]
  rw [if_pos ⟨.inl trivial, .inl trivial, .inl trivial, ⟨na.1, nb.1, nc.1⟩, na.2, nb.2, nc.2⟩]
end Go.Abs
