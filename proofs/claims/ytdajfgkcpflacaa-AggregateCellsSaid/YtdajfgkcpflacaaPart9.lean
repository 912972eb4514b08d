/- Own texts, part 9. -/
import Derived.Test.YtdajfgkcpflacaaPart8
import Derived.Test.YtdajfgkcpflacaaPart3
import Derived.Test.YtdajfgkcpflacaaRows
import Derived.Test.YtdajfgkcpflacaaPart6
import Derived.LaidLaws
import Derived.Lay
import Derived.Shelf.Lay

namespace Go.Abs
open Go.Proofs Go.Proofs.K17 Go.Proofs.D17 Go.RowKit
theorem w6 (op : List UInt8) (param kind : Int) (l : List (List ItI)) (t : Int) (r : AV) : (pureW PA GA XC RC (itbl []) (a6 op param kind l t) [] 6 [.str op, .int .i64 param, .int .i64 kind, .sl 1 (ptsL l) .no, .int .i64 t] (r, [])) =
(CallIs (some (AV.bool true, [])) (AV.bool true) [] ∧
  (true = true →
      ∃ (b : Bool),
        CallIs (some (AV.bool (famO op).isSome, [])) (AV.bool b) [] ∧
 (b = true →
 ((op == [(100 : UInt8), (101 : UInt8), (99 : UInt8), (97 : UInt8), (121 : UInt8)]) = true → RetIs (AV.bool true) [] (r, [])) ∧
 ((op == [(100 : UInt8), (101 : UInt8), (99 : UInt8), (97 : UInt8), (121 : UInt8)]) = false →
 (decide ((↑(ptsL l).length : Int) > (6 : Int)) = true → RetIs (AV.bool true) [] (r, [])) ∧
 (decide ((↑(ptsL l).length : Int) > (6 : Int)) = false →
 ∃ (n : Int),
 ∃ (n_1 : Int),
 ∃ (n_2 : Int),
 ∃ (es : List AV),
 ∃ (es_1 : List AV),
 CallIs
 (some
 (AV.agg
 [AV.int IntKind.i64 0, AV.int IntKind.i64 0, AV.int IntKind.u64 0,
 AV.sl 6 [] Own.no, AV.sl 2 [] Own.no],
 []))
 (AV.agg
 [AV.int IntKind.i64 n, AV.int IntKind.i64 n_1, AV.int IntKind.u64 n_2, AV.sl 6 es Own.no,
 AV.sl 2 es_1 Own.no])
 [] ∧
 ((∃ (y : Nat),
 ValsAre
 [AV.str op, AV.int IntKind.i64 param, AV.int IntKind.i64 kind, AV.sl 1 (ptsL l) Own.no,
 AV.int IntKind.i64 t, AV.sl 6 [] (Own.tok (0 : Nat)), AV.ptr 0 0,
 AV.int IntKind.i64 0]
 [AV.str op, AV.int IntKind.i64 param, AV.int IntKind.i64 kind, AV.sl 1 (ptsL l) Own.no,
 AV.int IntKind.i64 t, AV.sl 6 (cesL (cellP op l y)) (Own.tok 0),
 AV.ptr 0 0, AV.int IntKind.i64 (↑y : Int)] ∧
 StIs
 { boxes := [some [AV.int IntKind.i64 n, AV.int IntKind.i64 n_1, AV.int IntKind.u64 n_2, AV.sl 6 es Own.no, AV.sl 2 es_1 Own.no]], live := [((0 : Nat), (51 : Nat))] }
 { boxes := [some (stC (foldM op (List.take y l)))], live := [(y, (51 : Nat))] } ∧
 (y ≤ l.length ∧ (List.take y l).all smallP = true) ∧ True) ∧
 ∀ (x : Nat),
 x ≤ l.length ∧ (List.take x l).all smallP = true →
 (decide ((↑x : Int) < (↑(ptsL l).length : Int)) = true →
 ((0 : Int) ≤ (↑x : Int) ∧ (↑x : Int) < (↑(ptsL l).length : Int)) ∧
 ∃ (es : List AV),
 takeAt PA 25 (ptsL l) (↑x : Int).toNat 0 = some (AV.sl 6 es Own.no) ∧
 ∃ (b : Bool),
 CallIs (RC 11 [AV.sl 6 es Own.no]) (AV.bool b) [] ∧
 (b = true →
 ((0 : Int) ≤ (↑x : Int) ∧ (↑x : Int) < (↑(ptsL l).length : Int)) ∧
 ∃ (es : List AV),
 takeAt PA 25 (ptsL l) (↑x : Int).toNat 0 =
 some (AV.sl 6 es Own.no) ∧
 ∃ (n : Int),
 ∃ (n_3 : Int),
 ∃ (n_4 : Int),
 ∃ (es_2 : List AV),
 ∃ (es_3 : List AV),
 CallIs (RC 12 [AV.str op, AV.sl 6 es Own.no])
 (AV.agg
 [AV.int IntKind.i64 n, AV.int IntKind.i64 n_3, AV.int IntKind.u64 n_4,
 AV.sl 6 es_2 Own.no, AV.sl 2 es_3 Own.no])
 [] ∧
 ((6 : Nat) = (6 : Nat) ∨ cesL (cellP op l x) = []) ∧
 ((cesL (cellP op l x)).length + (1 : Nat)) * (81 : Nat) ≤
 (70368744177664 : Nat) ∧
 x = (cesL (cellP op l x)).length ∧
 ∃ (n_5 : Int),
 ∃ (n_6 : Int),
 ∃ (n_7 : Int),
 ∃ (es : List AV),
 ∃ (es_4 : List AV),
 CallIs
 (RC 15
 [AV.str op,
 AV.agg (stC (foldM op (List.take x l))),
 AV.agg
 [AV.int IntKind.i64 n, AV.int IntKind.i64 n_3,
 AV.int IntKind.u64 n_4, AV.sl 6 es_2 Own.no,
 AV.sl 2 es_3 Own.no]])
 (AV.agg
 [AV.int IntKind.i64 n_5, AV.int IntKind.i64 n_6,
 AV.int IntKind.u64 n_7, AV.sl 6 es Own.no,
 AV.sl 2 es_4 Own.no])
 [] ∧
 ∃ (y : Nat),
 ValsAre
 [AV.str op, AV.int IntKind.i64 param,
 AV.int IntKind.i64 kind,
 AV.sl 1 (ptsL l) Own.no, AV.int IntKind.i64 t,
 AV.sl 6
 (cesL (cellP op l x) ++
 [AV.agg
 [AV.int IntKind.i64 (↑x : Int),
 AV.int IntKind.i64 n, AV.int IntKind.i64 n_3,
 AV.int IntKind.u64 n_4,
 AV.sl 6 es_2 Own.no,
 AV.sl 2 es_3 Own.no]])
 (Own.tok 0),
 AV.ptr 0 0,
 AV.int IntKind.i64
 (IntKind.i64.wrap ((↑x : Int) + (1 : Int)))]
 [AV.str op, AV.int IntKind.i64 param,
 AV.int IntKind.i64 kind,
 AV.sl 1 (ptsL l) Own.no, AV.int IntKind.i64 t,
 AV.sl 6 (cesL (cellP op l y))
 (Own.tok 0),
 AV.ptr 0 0,
 AV.int IntKind.i64 (↑y : Int)] ∧
 StIs
 { boxes := [some [AV.int IntKind.i64 n_5, AV.int IntKind.i64 n_6, AV.int IntKind.u64 n_7, AV.sl 6 es Own.no, AV.sl 2 es_4 Own.no]], live := [((cesL (cellP op l x)).length + (1 : Nat), (51 : Nat))] }
 { boxes := [some (stC (foldM op (List.take y l)))], live := [(y, (51 : Nat))] } ∧
 (y ≤ l.length ∧ (List.take y l).all smallP = true) ∧
 l.length - y < l.length - x) ∧
 (b = false → RetIs (AV.bool true) [] (r, []))) ∧
 (decide ((↑x : Int) < (↑(ptsL l).length : Int)) = false →
 ∃ (_y : Unit),
 ValsAre
 [AV.str op, AV.int IntKind.i64 param, AV.int IntKind.i64 kind, AV.sl 1 (ptsL l) Own.no,
 AV.int IntKind.i64 t, AV.sl 6 (cesL (cellP op l x)) Own.no, AV.ptr 0 0]
 [AV.str op, AV.int IntKind.i64 param, AV.int IntKind.i64 kind, AV.sl 1 (ptsL l) Own.no,
 AV.int IntKind.i64 t, AV.sl 6 (cesL (cellP op l l.length)) Own.no,
 AV.ptr 0 0] ∧
 StIs
 { boxes := [some (stC (foldM op (List.take x l)))], live := [] }
 { boxes := [some (stC (foldM op l))], live := [] } ∧
 l.all smallP = true ∧ True)) ∧
 ∀ (_x : Unit),
 l.all smallP = true →
 True →
 (((op == [(109 : UInt8), (105 : UInt8), (110 : UInt8)]) = true →
 (∃ (y : Nat),
 ValsAre
 [AV.str op, AV.int IntKind.i64 param, AV.int IntKind.i64 kind, AV.sl 1 (ptsL l) Own.no,
 AV.int IntKind.i64 t, AV.sl 6 (cesL (cellP op l l.length)) Own.no,
 AV.ptr 0 0, AV.ptr 1 0, AV.int IntKind.i64 0]
 [AV.str op, AV.int IntKind.i64 param, AV.int IntKind.i64 kind, AV.sl 1 (ptsL l) Own.no,
 AV.int IntKind.i64 t, AV.sl 6 (cesL (cellP op l l.length)) Own.no,
 AV.ptr 0 0, AV.ptr 1 0, AV.int IntKind.i64 (↑y : Int)] ∧
 StIs
 { boxes := [some (stC (foldM op l)), some (exC 5 op param)], live := [] }
 { boxes := [some (stC (foldM op l)), some (exC 5 op param)], live := [] } ∧
 (y ≤ l.length ∧ (List.take y l).all cnP = true) ∧ True) ∧
 ∀ (x : Nat),
 x ≤ l.length ∧ (List.take x l).all cnP = true →
 (decide ((↑x : Int) < (↑(ptsL l).length : Int)) = true →
 (∃ (y : Nat × Nat),
 ValsAre
 [AV.str op, AV.int IntKind.i64 param, AV.int IntKind.i64 kind,
 AV.sl 1 (ptsL l) Own.no, AV.int IntKind.i64 t,
 AV.sl 6 (cesL (cellP op l l.length)) Own.no, AV.ptr 0 0,
 AV.ptr 1 0, AV.int IntKind.i64 (↑x : Int), AV.int IntKind.i64 0]
 [AV.str op, AV.int IntKind.i64 param, AV.int IntKind.i64 kind,
 AV.sl 1 (ptsL l) Own.no, AV.int IntKind.i64 t,
 AV.sl 6 (cesL (cellP op l l.length)) Own.no, AV.ptr 0 0,
 AV.ptr 1 0, AV.int IntKind.i64 (↑y.fst : Int),
 AV.int IntKind.i64 (↑y.snd : Int)] ∧
 StIs
 { boxes := [some (stC (foldM op l)), some (exC 5 op param)], live := [] }
 { boxes := [some (stC (foldM op l)), some (exC 5 op param)], live := [] } ∧
 (y.fst < l.length ∧
 ∀ (q : List ItI),
 l[y.fst]? = some q → y.snd ≤ q.length ∧ (List.take y.snd q).all cnI = true) ∧
 some (AV.int IntKind.i64 (↑x : Int)) = some (AV.int IntKind.i64 (↑y.fst : Int))) ∧
 ∀ (x_1 : Nat × Nat),
 (x_1.fst < l.length ∧
 ∀ (q : List ItI),
 l[x_1.fst]? = some q → x_1.snd ≤ q.length ∧ (List.take x_1.snd q).all cnI = true) →
 some (AV.int IntKind.i64 (↑x : Int)) = some (AV.int IntKind.i64 (↑x_1.fst : Int)) →
 ((0 : Int) ≤ (↑x_1.fst : Int) ∧ (↑x_1.fst : Int) < (↑(ptsL l).length : Int)) ∧
 ∃ (es : List AV),
 takeAt PA 25 (ptsL l) (↑x_1.fst : Int).toNat 0 =
 some (AV.sl 6 es Own.no) ∧
 (decide ((↑x_1.snd : Int) < (↑es.length : Int)) = true →
 ((0 : Int) ≤ (↑x_1.fst : Int) ∧ (↑x_1.fst : Int) < (↑(ptsL l).length : Int)) ∧
 ∃ (es : List AV),
 takeAt PA 25 (ptsL l) (↑x_1.fst : Int).toNat 0 =
 some (AV.sl 6 es Own.no) ∧
 ((0 : Int) ≤ (↑x_1.snd : Int) ∧ (↑x_1.snd : Int) < (↑es.length : Int)) ∧
 ∃ (n : Int),
 takeAt PA 3 es (↑x_1.snd : Int).toNat 5 =
 some (AV.int IntKind.i64 n) ∧
 (decide (n < (1 : Int)) = true → RetIs (AV.bool true) [] (r, [])) ∧
 (decide (n < (1 : Int)) = false →
 ((0 : Int) ≤ (↑x_1.fst : Int) ∧
 (↑x_1.fst : Int) < (↑(ptsL l).length : Int)) ∧
 ∃ (es : List AV),
 takeAt PA 25 (ptsL l) (↑x_1.fst : Int).toNat
 0 =
 some (AV.sl 6 es Own.no) ∧
 ((0 : Int) ≤ (↑x_1.snd : Int) ∧
 (↑x_1.snd : Int) < (↑es.length : Int)) ∧
 ∃ (n : Int),
 takeAt PA 3 es (↑x_1.snd : Int).toNat
 5 =
 some (AV.int IntKind.i64 n) ∧
 (decide (n > (1000 : Int)) = true →
 RetIs (AV.bool true) [] (r, [])) ∧
 (decide (n > (1000 : Int)) = false →
 ∃ (y : Nat × Nat),
 ValsAre
 [AV.str op, AV.int IntKind.i64 param,
 AV.int IntKind.i64 kind,
 AV.sl 1 (ptsL l) Own.no,
 AV.int IntKind.i64 t,
 AV.sl 6
 (cesL (cellP op l l.length)) Own.no,
 AV.ptr 0 0,
 AV.ptr 1 0,
 AV.int IntKind.i64 (↑x_1.fst : Int),
 AV.int IntKind.i64
 (IntKind.i64.wrap
 ((↑x_1.snd : Int) + (1 : Int)))]
 [AV.str op, AV.int IntKind.i64 param,
 AV.int IntKind.i64 kind,
 AV.sl 1 (ptsL l) Own.no,
 AV.int IntKind.i64 t,
 AV.sl 6
 (cesL (cellP op l l.length)) Own.no,
 AV.ptr 0 0,
 AV.ptr 1 0,
 AV.int IntKind.i64 (↑y.fst : Int),
 AV.int IntKind.i64 (↑y.snd : Int)] ∧
 StIs
 { boxes := [some (stC (foldM op l)), some (exC 5 op param)], live := [] }
 { boxes := [some (stC (foldM op l)), some (exC 5 op param)], live := [] } ∧
 (y.fst < l.length ∧
 ∀ (q : List ItI),
 l[y.fst]? = some q →
 y.snd ≤ q.length ∧
 (List.take y.snd q).all cnI =
 true) ∧
 some (AV.int IntKind.i64 (↑x : Int)) =
 some
 (AV.int IntKind.i64 (↑y.fst : Int)) ∧
 (l.getD y.fst []).length - y.snd <
 (l.getD x_1.fst []).length -
 x_1.snd))) ∧
 (decide ((↑x_1.snd : Int) < (↑es.length : Int)) = false →
 ∃ (y : Nat),
 ValsAre
 [AV.str op, AV.int IntKind.i64 param, AV.int IntKind.i64 kind,
 AV.sl 1 (ptsL l) Own.no, AV.int IntKind.i64 t,
 AV.sl 6 (cesL (cellP op l l.length)) Own.no,
 AV.ptr 0 0, AV.ptr 1 0,
 AV.int IntKind.i64 (IntKind.i64.wrap ((↑x_1.fst : Int) + (1 : Int)))]
 [AV.str op, AV.int IntKind.i64 param, AV.int IntKind.i64 kind,
 AV.sl 1 (ptsL l) Own.no, AV.int IntKind.i64 t,
 AV.sl 6 (cesL (cellP op l l.length)) Own.no,
 AV.ptr 0 0, AV.ptr 1 0,
 AV.int IntKind.i64 (↑y : Int)] ∧
 StIs
 { boxes := [some (stC (foldM op l)), some (exC 5 op param)], live := [] }
 { boxes := [some (stC (foldM op l)), some (exC 5 op param)], live := [] } ∧
 (y ≤ l.length ∧ (List.take y l).all cnP = true) ∧
 l.length - y < l.length - x)) ∧
 (decide ((↑x : Int) < (↑(ptsL l).length : Int)) = false →
 ∃ (_y : Unit),
 ValsAre
 [AV.str op, AV.int IntKind.i64 param, AV.int IntKind.i64 kind,
 AV.sl 1 (ptsL l) Own.no, AV.int IntKind.i64 t,
 AV.sl 6 (cesL (cellP op l l.length)) Own.no, AV.ptr 0 0,
 AV.ptr 1 0]
 [AV.str op, AV.int IntKind.i64 param, AV.int IntKind.i64 kind,
 AV.sl 1 (ptsL l) Own.no, AV.int IntKind.i64 t,
 AV.sl 6 (cesL (cellP op l l.length)) Own.no, AV.ptr 0 0,
 AV.ptr 1 0] ∧
 StIs
 { boxes := [some (stC (foldM op l)), some (exC 5 op param)], live := [] }
 { boxes := [some (stC (foldM op l)), some (exC 5 op param)], live := [] } ∧
 (op = bMin ∨ op = bMax → l.all cnP = true) ∧ True)) ∧
 ((op == [(109 : UInt8), (105 : UInt8), (110 : UInt8)]) = false →
 ((op == [(109 : UInt8), (97 : UInt8), (120 : UInt8)]) = true →
 (∃ (y : Nat),
 ValsAre
 [AV.str op, AV.int IntKind.i64 param, AV.int IntKind.i64 kind, AV.sl 1 (ptsL l) Own.no,
 AV.int IntKind.i64 t, AV.sl 6 (cesL (cellP op l l.length)) Own.no,
 AV.ptr 0 0, AV.ptr 1 0, AV.int IntKind.i64 0]
 [AV.str op, AV.int IntKind.i64 param, AV.int IntKind.i64 kind, AV.sl 1 (ptsL l) Own.no,
 AV.int IntKind.i64 t, AV.sl 6 (cesL (cellP op l l.length)) Own.no,
 AV.ptr 0 0, AV.ptr 1 0, AV.int IntKind.i64 (↑y : Int)] ∧
 StIs
 { boxes := [some (stC (foldM op l)), some (exC 5 op param)], live := [] }
 { boxes := [some (stC (foldM op l)), some (exC 5 op param)], live := [] } ∧
 (y ≤ l.length ∧ (List.take y l).all cnP = true) ∧ True) ∧
 ∀ (x : Nat),
 x ≤ l.length ∧ (List.take x l).all cnP = true →
 (decide ((↑x : Int) < (↑(ptsL l).length : Int)) = true →
 (∃ (y : Nat × Nat),
 ValsAre
 [AV.str op, AV.int IntKind.i64 param, AV.int IntKind.i64 kind,
 AV.sl 1 (ptsL l) Own.no, AV.int IntKind.i64 t,
 AV.sl 6 (cesL (cellP op l l.length)) Own.no, AV.ptr 0 0,
 AV.ptr 1 0, AV.int IntKind.i64 (↑x : Int),
 AV.int IntKind.i64 0]
 [AV.str op, AV.int IntKind.i64 param, AV.int IntKind.i64 kind,
 AV.sl 1 (ptsL l) Own.no, AV.int IntKind.i64 t,
 AV.sl 6 (cesL (cellP op l l.length)) Own.no, AV.ptr 0 0,
 AV.ptr 1 0, AV.int IntKind.i64 (↑y.fst : Int),
 AV.int IntKind.i64 (↑y.snd : Int)] ∧
 StIs
 { boxes := [some (stC (foldM op l)), some (exC 5 op param)], live := [] }
 { boxes := [some (stC (foldM op l)), some (exC 5 op param)], live := [] } ∧
 (y.fst < l.length ∧
 ∀ (q : List ItI),
 l[y.fst]? = some q → y.snd ≤ q.length ∧ (List.take y.snd q).all cnI = true) ∧
 some (AV.int IntKind.i64 (↑x : Int)) = some (AV.int IntKind.i64 (↑y.fst : Int))) ∧
 ∀ (x_1 : Nat × Nat),
 (x_1.fst < l.length ∧
 ∀ (q : List ItI),
 l[x_1.fst]? = some q → x_1.snd ≤ q.length ∧ (List.take x_1.snd q).all cnI = true) →
 some (AV.int IntKind.i64 (↑x : Int)) = some (AV.int IntKind.i64 (↑x_1.fst : Int)) →
 ((0 : Int) ≤ (↑x_1.fst : Int) ∧ (↑x_1.fst : Int) < (↑(ptsL l).length : Int)) ∧
 ∃ (es : List AV),
 takeAt PA 25 (ptsL l) (↑x_1.fst : Int).toNat 0 =
 some (AV.sl 6 es Own.no) ∧
 (decide ((↑x_1.snd : Int) < (↑es.length : Int)) = true →
 ((0 : Int) ≤ (↑x_1.fst : Int) ∧ (↑x_1.fst : Int) < (↑(ptsL l).length : Int)) ∧
 ∃ (es : List AV),
 takeAt PA 25 (ptsL l) (↑x_1.fst : Int).toNat 0 =
 some (AV.sl 6 es Own.no) ∧
 ((0 : Int) ≤ (↑x_1.snd : Int) ∧ (↑x_1.snd : Int) < (↑es.length : Int)) ∧
 ∃ (n : Int),
 takeAt PA 3 es (↑x_1.snd : Int).toNat 5 =
 some (AV.int IntKind.i64 n) ∧
 (decide (n < (1 : Int)) = true → RetIs (AV.bool true) [] (r, [])) ∧
 (decide (n < (1 : Int)) = false →
 ((0 : Int) ≤ (↑x_1.fst : Int) ∧
 (↑x_1.fst : Int) < (↑(ptsL l).length : Int)) ∧
 ∃ (es : List AV),
 takeAt PA 25 (ptsL l) (↑x_1.fst : Int).toNat
 0 =
 some (AV.sl 6 es Own.no) ∧
 ((0 : Int) ≤ (↑x_1.snd : Int) ∧
 (↑x_1.snd : Int) < (↑es.length : Int)) ∧
 ∃ (n : Int),
 takeAt PA 3 es (↑x_1.snd : Int).toNat
 5 =
 some (AV.int IntKind.i64 n) ∧
 (decide (n > (1000 : Int)) = true →
 RetIs (AV.bool true) [] (r, [])) ∧
 (decide (n > (1000 : Int)) = false →
 ∃ (y : Nat × Nat),
 ValsAre
 [AV.str op, AV.int IntKind.i64 param,
 AV.int IntKind.i64 kind,
 AV.sl 1 (ptsL l) Own.no,
 AV.int IntKind.i64 t,
 AV.sl 6
 (cesL (cellP op l l.length)) Own.no,
 AV.ptr 0 0,
 AV.ptr 1 0,
 AV.int IntKind.i64 (↑x_1.fst : Int),
 AV.int IntKind.i64
 (IntKind.i64.wrap
 ((↑x_1.snd : Int) + (1 : Int)))]
 [AV.str op, AV.int IntKind.i64 param,
 AV.int IntKind.i64 kind,
 AV.sl 1 (ptsL l) Own.no,
 AV.int IntKind.i64 t,
 AV.sl 6
 (cesL (cellP op l l.length)) Own.no,
 AV.ptr 0 0,
 AV.ptr 1 0,
 AV.int IntKind.i64 (↑y.fst : Int),
 AV.int IntKind.i64 (↑y.snd : Int)] ∧
 StIs
 { boxes := [some (stC (foldM op l)), some (exC 5 op param)], live := [] }
 { boxes := [some (stC (foldM op l)), some (exC 5 op param)], live := [] } ∧
 (y.fst < l.length ∧
 ∀ (q : List ItI),
 l[y.fst]? = some q →
 y.snd ≤ q.length ∧
 (List.take y.snd q).all cnI =
 true) ∧
 some (AV.int IntKind.i64 (↑x : Int)) =
 some
 (AV.int IntKind.i64
 (↑y.fst : Int)) ∧
 (l.getD y.fst []).length - y.snd <
 (l.getD x_1.fst []).length -
 x_1.snd))) ∧
 (decide ((↑x_1.snd : Int) < (↑es.length : Int)) = false →
 ∃ (y : Nat),
 ValsAre
 [AV.str op, AV.int IntKind.i64 param, AV.int IntKind.i64 kind,
 AV.sl 1 (ptsL l) Own.no, AV.int IntKind.i64 t,
 AV.sl 6 (cesL (cellP op l l.length)) Own.no,
 AV.ptr 0 0, AV.ptr 1 0,
 AV.int IntKind.i64 (IntKind.i64.wrap ((↑x_1.fst : Int) + (1 : Int)))]
 [AV.str op, AV.int IntKind.i64 param, AV.int IntKind.i64 kind,
 AV.sl 1 (ptsL l) Own.no, AV.int IntKind.i64 t,
 AV.sl 6 (cesL (cellP op l l.length)) Own.no,
 AV.ptr 0 0, AV.ptr 1 0,
 AV.int IntKind.i64 (↑y : Int)] ∧
 StIs
 { boxes := [some (stC (foldM op l)), some (exC 5 op param)], live := [] }
 { boxes := [some (stC (foldM op l)), some (exC 5 op param)], live := [] } ∧
 (y ≤ l.length ∧ (List.take y l).all cnP = true) ∧
 l.length - y < l.length - x)) ∧
 (decide ((↑x : Int) < (↑(ptsL l).length : Int)) = false →
 ∃ (_y : Unit),
 ValsAre
 [AV.str op, AV.int IntKind.i64 param, AV.int IntKind.i64 kind,
 AV.sl 1 (ptsL l) Own.no, AV.int IntKind.i64 t,
 AV.sl 6 (cesL (cellP op l l.length)) Own.no, AV.ptr 0 0,
 AV.ptr 1 0]
 [AV.str op, AV.int IntKind.i64 param, AV.int IntKind.i64 kind,
 AV.sl 1 (ptsL l) Own.no, AV.int IntKind.i64 t,
 AV.sl 6 (cesL (cellP op l l.length)) Own.no, AV.ptr 0 0,
 AV.ptr 1 0] ∧
 StIs
 { boxes := [some (stC (foldM op l)), some (exC 5 op param)], live := [] }
 { boxes := [some (stC (foldM op l)), some (exC 5 op param)], live := [] } ∧
 (op = bMin ∨ op = bMax → l.all cnP = true) ∧ True)) ∧
 ((op == [(109 : UInt8), (97 : UInt8), (120 : UInt8)]) = false →
 ((op == [(102 : UInt8), (105 : UInt8), (114 : UInt8), (115 : UInt8), (116 : UInt8)]) = true →
 (∃ (y : Nat),
 ValsAre
 [AV.str op, AV.int IntKind.i64 param, AV.int IntKind.i64 kind,
 AV.sl 1 (ptsL l) Own.no, AV.int IntKind.i64 t,
 AV.sl 6 (cesL (cellP op l l.length)) Own.no, AV.ptr 0 0,
 AV.ptr 1 0, AV.int IntKind.i64 0]
 [AV.str op, AV.int IntKind.i64 param, AV.int IntKind.i64 kind,
 AV.sl 1 (ptsL l) Own.no, AV.int IntKind.i64 t,
 AV.sl 6 (cesL (cellP op l l.length)) Own.no, AV.ptr 0 0,
 AV.ptr 1 0, AV.int IntKind.i64 (↑y : Int)] ∧
 StIs
 { boxes := [some (stC (foldM op l)), some (exC 5 op param)], live := [] }
 { boxes := [some (stC (foldM op l)), some (exC 5 op param)], live := [] } ∧
 (y ≤ l.length ∧ (List.take y l).all cnP = true) ∧ True) ∧
 ∀ (x : Nat),
 x ≤ l.length ∧ (List.take x l).all cnP = true →
 (decide ((↑x : Int) < (↑(ptsL l).length : Int)) = true →
 (∃ (y : Nat × Nat),
 ValsAre
 [AV.str op, AV.int IntKind.i64 param, AV.int IntKind.i64 kind,
 AV.sl 1 (ptsL l) Own.no, AV.int IntKind.i64 t,
 AV.sl 6 (cesL (cellP op l l.length)) Own.no,
 AV.ptr 0 0, AV.ptr 1 0,
 AV.int IntKind.i64 (↑x : Int), AV.int IntKind.i64 0]
 [AV.str op, AV.int IntKind.i64 param, AV.int IntKind.i64 kind,
 AV.sl 1 (ptsL l) Own.no, AV.int IntKind.i64 t,
 AV.sl 6 (cesL (cellP op l l.length)) Own.no,
 AV.ptr 0 0, AV.ptr 1 0,
 AV.int IntKind.i64 (↑y.fst : Int), AV.int IntKind.i64 (↑y.snd : Int)] ∧
 StIs
 { boxes := [some (stC (foldM op l)), some (exC 5 op param)], live := [] }
 { boxes := [some (stC (foldM op l)), some (exC 5 op param)], live := [] } ∧
 (y.fst < l.length ∧
 ∀ (q : List ItI),
 l[y.fst]? = some q → y.snd ≤ q.length ∧ (List.take y.snd q).all cnI = true) ∧
 some (AV.int IntKind.i64 (↑x : Int)) = some (AV.int IntKind.i64 (↑y.fst : Int))) ∧
 ∀ (x_1 : Nat × Nat),
 (x_1.fst < l.length ∧
 ∀ (q : List ItI),
 l[x_1.fst]? = some q → x_1.snd ≤ q.length ∧ (List.take x_1.snd q).all cnI = true) →
 some (AV.int IntKind.i64 (↑x : Int)) = some (AV.int IntKind.i64 (↑x_1.fst : Int)) →
 ((0 : Int) ≤ (↑x_1.fst : Int) ∧ (↑x_1.fst : Int) < (↑(ptsL l).length : Int)) ∧
 ∃ (es : List AV),
 takeAt PA 25 (ptsL l) (↑x_1.fst : Int).toNat 0 =
 some (AV.sl 6 es Own.no) ∧
 (decide ((↑x_1.snd : Int) < (↑es.length : Int)) = true →
 ((0 : Int) ≤ (↑x_1.fst : Int) ∧
 (↑x_1.fst : Int) < (↑(ptsL l).length : Int)) ∧
 ∃ (es : List AV),
 takeAt PA 25 (ptsL l) (↑x_1.fst : Int).toNat 0 =
 some (AV.sl 6 es Own.no) ∧
 ((0 : Int) ≤ (↑x_1.snd : Int) ∧
 (↑x_1.snd : Int) < (↑es.length : Int)) ∧
 ∃ (n : Int),
 takeAt PA 3 es (↑x_1.snd : Int).toNat 5 =
 some (AV.int IntKind.i64 n) ∧
 (decide (n < (1 : Int)) = true →
 RetIs (AV.bool true) [] (r, [])) ∧
 (decide (n < (1 : Int)) = false →
 ((0 : Int) ≤ (↑x_1.fst : Int) ∧
 (↑x_1.fst : Int) < (↑(ptsL l).length : Int)) ∧
 ∃ (es : List AV),
 takeAt PA 25 (ptsL l) (↑x_1.fst : Int).toNat
 0 =
 some (AV.sl 6 es Own.no) ∧
 ((0 : Int) ≤ (↑x_1.snd : Int) ∧
 (↑x_1.snd : Int) < (↑es.length : Int)) ∧
 ∃ (n : Int),
 takeAt PA 3 es (↑x_1.snd : Int).toNat
 5 =
 some (AV.int IntKind.i64 n) ∧
 (decide (n > (1000 : Int)) = true →
 RetIs (AV.bool true) [] (r, [])) ∧
 (decide (n > (1000 : Int)) = false →
 ∃ (y : Nat × Nat),
 ValsAre
 [AV.str op, AV.int IntKind.i64 param,
 AV.int IntKind.i64 kind,
 AV.sl 1 (ptsL l) Own.no,
 AV.int IntKind.i64 t,
 AV.sl 6
 (cesL (cellP op l l.length))
 Own.no,
 AV.ptr 0 0,
 AV.ptr 1 0,
 AV.int IntKind.i64 (↑x_1.fst : Int),
 AV.int IntKind.i64
 (IntKind.i64.wrap
 ((↑x_1.snd : Int) + (1 : Int)))]
 [AV.str op, AV.int IntKind.i64 param,
 AV.int IntKind.i64 kind,
 AV.sl 1 (ptsL l) Own.no,
 AV.int IntKind.i64 t,
 AV.sl 6
 (cesL (cellP op l l.length))
 Own.no,
 AV.ptr 0 0,
 AV.ptr 1 0,
 AV.int IntKind.i64 (↑y.fst : Int),
 AV.int IntKind.i64 (↑y.snd : Int)] ∧
 StIs
 { boxes := [some (stC (foldM op l)), some (exC 5 op param)], live := [] }
 { boxes := [some (stC (foldM op l)), some (exC 5 op param)], live := [] } ∧
 (y.fst < l.length ∧
 ∀ (q : List ItI),
 l[y.fst]? = some q →
 y.snd ≤ q.length ∧
 (List.take y.snd q).all
 cnI =
 true) ∧
 some
 (AV.int IntKind.i64
 (↑x : Int)) =
 some
 (AV.int IntKind.i64
 (↑y.fst : Int)) ∧
 (l.getD y.fst []).length - y.snd <
 (l.getD x_1.fst []).length -
 x_1.snd))) ∧
 (decide ((↑x_1.snd : Int) < (↑es.length : Int)) = false →
 ∃ (y : Nat),
 ValsAre
 [AV.str op, AV.int IntKind.i64 param, AV.int IntKind.i64 kind,
 AV.sl 1 (ptsL l) Own.no, AV.int IntKind.i64 t,
 AV.sl 6 (cesL (cellP op l l.length)) Own.no,
 AV.ptr 0 0, AV.ptr 1 0,
 AV.int IntKind.i64
 (IntKind.i64.wrap ((↑x_1.fst : Int) + (1 : Int)))]
 [AV.str op, AV.int IntKind.i64 param, AV.int IntKind.i64 kind,
 AV.sl 1 (ptsL l) Own.no, AV.int IntKind.i64 t,
 AV.sl 6 (cesL (cellP op l l.length)) Own.no,
 AV.ptr 0 0, AV.ptr 1 0,
 AV.int IntKind.i64 (↑y : Int)] ∧
 StIs
 { boxes := [some (stC (foldM op l)), some (exC 5 op param)], live := [] }
 { boxes := [some (stC (foldM op l)), some (exC 5 op param)], live := [] } ∧
 (y ≤ l.length ∧ (List.take y l).all cnP = true) ∧
 l.length - y < l.length - x)) ∧
 (decide ((↑x : Int) < (↑(ptsL l).length : Int)) = false →
 ∃ (_y : Unit),
 ValsAre
 [AV.str op, AV.int IntKind.i64 param, AV.int IntKind.i64 kind,
 AV.sl 1 (ptsL l) Own.no, AV.int IntKind.i64 t,
 AV.sl 6 (cesL (cellP op l l.length)) Own.no, AV.ptr 0 0,
 AV.ptr 1 0]
 [AV.str op, AV.int IntKind.i64 param, AV.int IntKind.i64 kind,
 AV.sl 1 (ptsL l) Own.no, AV.int IntKind.i64 t,
 AV.sl 6 (cesL (cellP op l l.length)) Own.no, AV.ptr 0 0,
 AV.ptr 1 0] ∧
 StIs
 { boxes := [some (stC (foldM op l)), some (exC 5 op param)], live := [] }
 { boxes := [some (stC (foldM op l)), some (exC 5 op param)], live := [] } ∧
 (op = bMin ∨ op = bMax → l.all cnP = true) ∧ True)) ∧
 ((op == [(102 : UInt8), (105 : UInt8), (114 : UInt8), (115 : UInt8), (116 : UInt8)]) = false →
 ((op == [(108 : UInt8), (97 : UInt8), (115 : UInt8), (116 : UInt8)]) = true →
 (∃ (y : Nat),
 ValsAre
 [AV.str op, AV.int IntKind.i64 param, AV.int IntKind.i64 kind,
 AV.sl 1 (ptsL l) Own.no, AV.int IntKind.i64 t,
 AV.sl 6 (cesL (cellP op l l.length)) Own.no, AV.ptr 0 0,
 AV.ptr 1 0, AV.int IntKind.i64 0]
 [AV.str op, AV.int IntKind.i64 param, AV.int IntKind.i64 kind,
 AV.sl 1 (ptsL l) Own.no, AV.int IntKind.i64 t,
 AV.sl 6 (cesL (cellP op l l.length)) Own.no, AV.ptr 0 0,
 AV.ptr 1 0, AV.int IntKind.i64 (↑y : Int)] ∧
 StIs
 { boxes := [some (stC (foldM op l)), some (exC 5 op param)], live := [] }
 { boxes := [some (stC (foldM op l)), some (exC 5 op param)], live := [] } ∧
 (y ≤ l.length ∧ (List.take y l).all cnP = true) ∧ True) ∧
 ∀ (x : Nat),
 x ≤ l.length ∧ (List.take x l).all cnP = true →
 (decide ((↑x : Int) < (↑(ptsL l).length : Int)) = true →
 (∃ (y : Nat × Nat),
 ValsAre
 [AV.str op, AV.int IntKind.i64 param, AV.int IntKind.i64 kind,
 AV.sl 1 (ptsL l) Own.no, AV.int IntKind.i64 t,
 AV.sl 6 (cesL (cellP op l l.length)) Own.no,
 AV.ptr 0 0, AV.ptr 1 0,
 AV.int IntKind.i64 (↑x : Int), AV.int IntKind.i64 0]
 [AV.str op, AV.int IntKind.i64 param, AV.int IntKind.i64 kind,
 AV.sl 1 (ptsL l) Own.no, AV.int IntKind.i64 t,
 AV.sl 6 (cesL (cellP op l l.length)) Own.no,
 AV.ptr 0 0, AV.ptr 1 0,
 AV.int IntKind.i64 (↑y.fst : Int), AV.int IntKind.i64 (↑y.snd : Int)] ∧
 StIs
 { boxes := [some (stC (foldM op l)), some (exC 5 op param)], live := [] }
 { boxes := [some (stC (foldM op l)), some (exC 5 op param)], live := [] } ∧
 (y.fst < l.length ∧
 ∀ (q : List ItI),
 l[y.fst]? = some q →
 y.snd ≤ q.length ∧ (List.take y.snd q).all cnI = true) ∧
 some (AV.int IntKind.i64 (↑x : Int)) =
 some (AV.int IntKind.i64 (↑y.fst : Int))) ∧
 ∀ (x_1 : Nat × Nat),
 (x_1.fst < l.length ∧
 ∀ (q : List ItI),
 l[x_1.fst]? = some q →
 x_1.snd ≤ q.length ∧ (List.take x_1.snd q).all cnI = true) →
 some (AV.int IntKind.i64 (↑x : Int)) = some (AV.int IntKind.i64 (↑x_1.fst : Int)) →
 ((0 : Int) ≤ (↑x_1.fst : Int) ∧ (↑x_1.fst : Int) < (↑(ptsL l).length : Int)) ∧
 ∃ (es : List AV),
 takeAt PA 25 (ptsL l) (↑x_1.fst : Int).toNat 0 =
 some (AV.sl 6 es Own.no) ∧
 (decide ((↑x_1.snd : Int) < (↑es.length : Int)) = true →
 ((0 : Int) ≤ (↑x_1.fst : Int) ∧
 (↑x_1.fst : Int) < (↑(ptsL l).length : Int)) ∧
 ∃ (es : List AV),
 takeAt PA 25 (ptsL l) (↑x_1.fst : Int).toNat 0 =
 some (AV.sl 6 es Own.no) ∧
 ((0 : Int) ≤ (↑x_1.snd : Int) ∧
 (↑x_1.snd : Int) < (↑es.length : Int)) ∧
 ∃ (n : Int),
 takeAt PA 3 es (↑x_1.snd : Int).toNat 5 =
 some (AV.int IntKind.i64 n) ∧
 (decide (n < (1 : Int)) = true →
 RetIs (AV.bool true) [] (r, [])) ∧
 (decide (n < (1 : Int)) = false →
 ((0 : Int) ≤ (↑x_1.fst : Int) ∧
 (↑x_1.fst : Int) < (↑(ptsL l).length : Int)) ∧
 ∃ (es : List AV),
 takeAt PA 25 (ptsL l)
 (↑x_1.fst : Int).toNat 0 =
 some (AV.sl 6 es Own.no) ∧
 ((0 : Int) ≤ (↑x_1.snd : Int) ∧
 (↑x_1.snd : Int) < (↑es.length : Int)) ∧
 ∃ (n : Int),
 takeAt PA 3 es
 (↑x_1.snd : Int).toNat 5 =
 some (AV.int IntKind.i64 n) ∧
 (decide (n > (1000 : Int)) = true →
 RetIs (AV.bool true) [] (r, [])) ∧
 (decide (n > (1000 : Int)) = false →
 ∃ (y : Nat × Nat),
 ValsAre
 [AV.str op,
 AV.int IntKind.i64 param,
 AV.int IntKind.i64 kind,
 AV.sl 1 (ptsL l)
 Own.no,
 AV.int IntKind.i64 t,
 AV.sl 6
 (cesL (cellP op l l.length))
 Own.no,
 AV.ptr 0 0,
 AV.ptr 1 0,
 AV.int IntKind.i64
 (↑x_1.fst : Int),
 AV.int IntKind.i64
 (IntKind.i64.wrap
 ((↑x_1.snd : Int) +
 (1 : Int)))]
 [AV.str op,
 AV.int IntKind.i64 param,
 AV.int IntKind.i64 kind,
 AV.sl 1 (ptsL l)
 Own.no,
 AV.int IntKind.i64 t,
 AV.sl 6
 (cesL (cellP op l l.length))
 Own.no,
 AV.ptr 0 0,
 AV.ptr 1 0,
 AV.int IntKind.i64
 (↑y.fst : Int),
 AV.int IntKind.i64
 (↑y.snd : Int)] ∧
 StIs
 { boxes := [some (stC (foldM op l)), some (exC 5 op param)], live := [] }
 { boxes := [some (stC (foldM op l)), some (exC 5 op param)], live := [] } ∧
 (y.fst < l.length ∧
 ∀ (q : List ItI),
 l[y.fst]? = some q →
 y.snd ≤ q.length ∧
 (List.take y.snd q).all
 cnI =
 true) ∧
 some
 (AV.int IntKind.i64
 (↑x : Int)) =
 some
 (AV.int IntKind.i64
 (↑y.fst : Int)) ∧
 (l.getD y.fst []).length -
 y.snd <
 (l.getD x_1.fst []).length -
 x_1.snd))) ∧
 (decide ((↑x_1.snd : Int) < (↑es.length : Int)) = false →
 ∃ (y : Nat),
 ValsAre
 [AV.str op, AV.int IntKind.i64 param, AV.int IntKind.i64 kind,
 AV.sl 1 (ptsL l) Own.no, AV.int IntKind.i64 t,
 AV.sl 6 (cesL (cellP op l l.length)) Own.no,
 AV.ptr 0 0, AV.ptr 1 0,
 AV.int IntKind.i64
 (IntKind.i64.wrap ((↑x_1.fst : Int) + (1 : Int)))]
 [AV.str op, AV.int IntKind.i64 param, AV.int IntKind.i64 kind,
 AV.sl 1 (ptsL l) Own.no, AV.int IntKind.i64 t,
 AV.sl 6 (cesL (cellP op l l.length)) Own.no,
 AV.ptr 0 0, AV.ptr 1 0,
 AV.int IntKind.i64 (↑y : Int)] ∧
 StIs
 { boxes := [some (stC (foldM op l)), some (exC 5 op param)], live := [] }
 { boxes := [some (stC (foldM op l)), some (exC 5 op param)], live := [] } ∧
 (y ≤ l.length ∧ (List.take y l).all cnP = true) ∧
 l.length - y < l.length - x)) ∧
 (decide ((↑x : Int) < (↑(ptsL l).length : Int)) = false →
 ∃ (_y : Unit),
 ValsAre
 [AV.str op, AV.int IntKind.i64 param, AV.int IntKind.i64 kind,
 AV.sl 1 (ptsL l) Own.no, AV.int IntKind.i64 t,
 AV.sl 6 (cesL (cellP op l l.length)) Own.no,
 AV.ptr 0 0, AV.ptr 1 0]
 [AV.str op, AV.int IntKind.i64 param, AV.int IntKind.i64 kind,
 AV.sl 1 (ptsL l) Own.no, AV.int IntKind.i64 t,
 AV.sl 6 (cesL (cellP op l l.length)) Own.no,
 AV.ptr 0 0, AV.ptr 1 0] ∧
 StIs
 { boxes := [some (stC (foldM op l)), some (exC 5 op param)], live := [] }
 { boxes := [some (stC (foldM op l)), some (exC 5 op param)], live := [] } ∧
 (op = bMin ∨ op = bMax → l.all cnP = true) ∧ True)) ∧
 ((op == [(108 : UInt8), (97 : UInt8), (115 : UInt8), (116 : UInt8)]) = false →
 ∃ (_y : Unit),
 ValsAre
 [AV.str op, AV.int IntKind.i64 param, AV.int IntKind.i64 kind,
 AV.sl 1 (ptsL l) Own.no, AV.int IntKind.i64 t,
 AV.sl 6 (cesL (cellP op l l.length)) Own.no, AV.ptr 0 0,
 AV.ptr 1 0]
 [AV.str op, AV.int IntKind.i64 param, AV.int IntKind.i64 kind,
 AV.sl 1 (ptsL l) Own.no, AV.int IntKind.i64 t,
 AV.sl 6 (cesL (cellP op l l.length)) Own.no, AV.ptr 0 0,
 AV.ptr 1 0] ∧
 StIs
 { boxes := [some (stC (foldM op l)), some (exC 5 op param)], live := [] }
 { boxes := [some (stC (foldM op l)), some (exC 5 op param)], live := [] } ∧
 (op = bMin ∨ op = bMax → l.all cnP = true) ∧ True))))) ∧
 ∀ (_x : Unit),
 (op = bMin ∨ op = bMax → l.all cnP = true) →
 True →
 ∃ (n : Int),
 ∃ (n_3 : Int),
 ∃ (s : List UInt8),
 CallIs
 (RC 18
 [AV.agg (exC 5 op param),
 AV.int IntKind.i64 kind, AV.sl 6 (cesL (cellP op l l.length)) Own.no,
 AV.int IntKind.i64 t])
 (AV.agg [AV.int IntKind.i64 n, AV.int IntKind.i64 n_3, AV.str s]) [] ∧
 ∃ (n_4 : Int),
 ∃ (n_5 : Int),
 ∃ (s_1 : List UInt8),
 CallIs
 (RC 18
 [AV.agg (exC 5 op param),
 AV.int IntKind.i64 kind,
 AV.sl 6
 [AV.agg
 [AV.int IntKind.i64 0, AV.int IntKind.i64 (foldM op l).n,
 AV.int IntKind.i64 (foldM op l).h, AV.int IntKind.u64 (foldM op l).l,
 AV.sl 6 (itsL (foldM op l).its) Own.no,
 AV.sl 2 (bksL (foldM op l).bks) Own.no]]
 Own.full,
 AV.int IntKind.i64 t])
 (AV.agg [AV.int IntKind.i64 n_4, AV.int IntKind.i64 n_5, AV.str s_1]) [] ∧
 ((n == n_4 && (n_3 == n_5 && (s == s_1 && true))) = true → RetIs (AV.bool true) [] (r, [])) ∧
 ((n == n_4 && (n_3 == n_5 && (s == s_1 && true))) = false →
 RetIs (AV.bool false) [] (r, []))))) ∧
 (b = false → RetIs (AV.bool true) [] (r, []))) ∧
    (true = false → RetIs (AV.bool false) [] (r, []))) := by kernel_rfl
end Go.Abs

namespace Go.Abs
open Go.Proofs Go.Proofs.K17 Go.Proofs.D17 Go.RowKit
/-! distinct -/
def getV (L : List (VI × Int)) (v : VI) : Int := match L with
  | [] => 0
  | (u, d) :: t => if u = v then d else getV t v
theorem getV_add {v u : VI} {c : Int} : ∀ {L : List (VI × Int)}, getV (addV v c L) u = if v = u then wrap64 (getV L v + c) else getV L u
  | [] => by
    unfold addV getV
    split <;> rfl
  | (y, d) :: t => by
    unfold addV
    by_cases h : y = v
    · subst h
      simp only [if_true, getV]
      split <;> rfl
    · simp only [if_neg h, getV]
      rw [getV_add (L := t)]
      by_cases h2 : v = u
      · subst h2; simp only [if_neg h, if_true]
      · simp only [if_neg h2]
theorem getV_mem {v : VI} : ∀ {L : List (VI × Int)}, v ∉ L.map (·.1) → getV L v = 0
  | [], _ => rfl
  | (y, d) :: t, h => by
    simp only [List.map_cons, List.mem_cons, not_or] at h
    unfold getV
    rw [if_neg (fun e => h.1 e.symm)]
    exact getV_mem h.2
theorem getV_at : ∀ {L : List (VI × Int)}, (L.map (·.1)).Nodup → ∀ p ∈ L, getV L p.1 = p.2
  | (y, d) :: t, hn, p, hp => by
    obtain ⟨h1, h2⟩ := List.nodup_cons.1 hn
    unfold getV
    rcases List.mem_cons.1 hp with rfl | hp
    · simp
    · have : y ≠ p.1 := fun e => h1 (by show y ∈ _; rw [e]; exact List.mem_map.2 ⟨p, hp, rfl⟩)
      rw [if_neg this]
      exact getV_at h2 p hp
theorem sums_nodup (l : List ItI) : ((sumsV l).map (·.1)).Nodup := by
  have : ∀ (l : List ItI) (L : List (VI × Int)), (L.map (·.1)).Nodup → ((l.foldl (fun m x => addV (itV x) x.c m) L).map (·.1)).Nodup := by
    intro l
    induction l with
    | nil => exact fun L h => h
    | cons x l ih => exact fun L h => ih _ (addV_nodup h)
  exact this l [] (by simp)
def kV (v : VI) : KeyT := ([], 0, v.k, v.n, v.s)
theorem kV_iff {x : ItI} {v : VI} : itV x = v ↔ ky false x = kV v := by
  obtain ⟨k, n, s⟩ := v
  unfold itV ky kap markI kV
  simp
theorem sums_get (l : List ItI) (v : VI) : getV (sumsV l) v = wrap64 (cnt false l (kV v)) := by
  have : ∀ (l : List ItI) (L : List (VI × Int)), iOk (getV L v) → getV (l.foldl (fun m x => addV (itV x) x.c m) L) v = wrap64 (getV L v + cnt false l (kV v)) := by
    intro l
    induction l with
    | nil =>
      intro L hL
      show getV L v = wrap64 (getV L v + 0)
      rw [Int.add_zero, w64_in hL]
    | cons x l ih =>
      intro L hL
      have e : cnt false (x :: l) (kV v) = cntG false (kV v) x + cnt false l (kV v) := rfl
      rw [List.foldl_cons, e]
      by_cases hx : itV x = v
      · have hg : cntG false (kV v) x = x.c := by unfold cntG; rw [if_pos (kV_iff.1 hx)]
        have ha : getV (addV (itV x) x.c L) v = wrap64 (getV L v + x.c) := by rw [getV_add, if_pos hx, hx]
        rw [ih _ (by rw [ha]; exact w64_iOk _), ha, hg, w64_add, Int.add_assoc]
      · have hg : cntG false (kV v) x = 0 := by unfold cntG; rw [if_neg fun h => hx (kV_iff.2 h)]
        have ha : getV (addV (itV x) x.c L) v = getV L v := by rw [getV_add, if_neg hx]
        rw [ih _ (by rw [ha]; exact hL), ha, hg, Int.zero_add]
  have h := this l [] (by unfold getV iOk; omega)
  show getV (l.foldl _ []) v = _
  rw [h]
  show wrap64 (0 + _) = _
  rw [Int.zero_add]
theorem dist_ext {l m : List ItI} (h : ∀ k, wrap64 (cnt false l k) = wrap64 (cnt false m k)) : distV l = distV m := by
  have len : ∀ l, distV l = (((sumsV l).map (·.1)).filter fun v => decide (0 < getV (sumsV l) v)).length := fun l => by
    unfold distV
    rw [List.filter_map, List.length_map]
    congr 1
    refine List.filter_congr fun p hp => ?_
    show decide (0 < p.2) = decide (0 < getV (sumsV l) p.1)
    rw [getV_at (sums_nodup l) p hp]
  rw [len, len]
  refine List.Perm.length_eq ?_
  refine (List.perm_ext_iff_of_nodup ((sums_nodup l).filter _) ((sums_nodup m).filter _)).2 fun v => ?_
  have e : getV (sumsV l) v = getV (sumsV m) v := by rw [sums_get, sums_get, h]
  rw [List.mem_filter, List.mem_filter, e]
  simp only [decide_eq_true_eq]
  constructor
  · rintro ⟨_, h2⟩
    refine ⟨Classical.byContradiction fun hn => ?_, h2⟩
    rw [getV_mem hn] at h2; omega
  · rintro ⟨_, h2⟩
    refine ⟨Classical.byContradiction fun hn => ?_, h2⟩
    rw [← e, getV_mem hn] at h2; omega
/-! min, max -/
def cmpVK : Int × Int × List UInt8 → Int × Int × List UInt8 → Int := lex Lib.compareInt (lex Lib.compareInt Lib.compareBytes)
theorem ordV : Ord3 cmpVK := ord_lex ord_int (ord_lex ord_int ord_bytes)
def vK (x : ItI) : Int × Int × List UInt8 := (x.k, x.n, x.s)
def bK (b : Bst) : Int × Int × List UInt8 := (b.k, b.n, b.s)
theorem cmpV_vK (k n : Int) (s : List UInt8) (k' n' : Int) (s' : List UInt8) : cmpV k n s k' n' s' = cmpVK (k, n, s) (k', n', s') := by
  unfold cmpV or3 cmpVK lex; rfl
/-- what is best of a list -/
structure BestIs (op : List UInt8) (l : List ItI) (b : Bst) : Prop where
  f : b.f = true
  mem : ∃ x ∈ l, vK x = bK b
  all : ∀ x ∈ l, (op = bMin → 0 ≤ cmpVK (vK x) (bK b)) ∧ (op = bMax → cmpVK (vK x) (bK b) ≤ 0)
theorem irrV (k : Int × Int × List UInt8) : cmpVK k k = 0 := (ordV.eq k k).2 rfl
theorem le_transV {a b c : Int × Int × List UInt8} (h1 : cmpVK a b ≤ 0) (h2 : cmpVK b c ≤ 0) : cmpVK a c ≤ 0 := by
  by_cases e1 : cmpVK a b = 0
  · rw [(ordV.eq _ _).1 e1]; exact h2
  · by_cases e2 : cmpVK b c = 0
    · rw [← (ordV.eq _ _).1 e2]; exact h1
    · have := ordV.trans a b c (by omega) (by omega)
      omega
theorem best_is {op : List UInt8} (hop : op = bMin ∨ op = bMax) : ∀ {l : List ItI} {b : Bst} {p : List ItI}, (∀ x ∈ l, 0 < x.c) → (p = [] ∧ b = ⟨0, 0, [], false⟩ ∨ BestIs op p b) →
    (p ++ l = [] ∧ l.foldl (bstep op) b = ⟨0, 0, [], false⟩) ∨ BestIs op (p ++ l) (l.foldl (bstep op) b)
  | [], b, p, _, h => by
    rw [List.append_nil]; exact h
  | x :: l, b, p, hc, h => by
    have hx := hc x (by simp)
    have hnl : op ≠ bLast := by rcases hop with rfl | rfl <;> decide
    have hst : BestIs op (p ++ [x]) (bstep op b x) := by
      by_cases hb : b.f = false ∨ op = bLast ∨ (op = bMin ∧ cmpV x.k x.n x.s b.k b.n b.s < 0) ∨ (op = bMax ∧ 0 < cmpV x.k x.n x.s b.k b.n b.s)
      · rw [bstep_1 (by omega) hb]
        refine ⟨rfl, ⟨x, by simp, rfl⟩, fun y hy => ?_⟩
        rcases List.mem_append.1 hy with hy | hy
        · rcases h with ⟨hp, _⟩ | h
          · subst hp; cases hy
          · rcases hb with hb | hb | hb | hb
            · rw [h.f] at hb; cases hb
            · exact absurd hb hnl
            · obtain ⟨ho, hlt⟩ := hb
              subst ho
              rw [cmpV_vK] at hlt
              have hlt : cmpVK (vK x) (bK b) < 0 := hlt
              refine ⟨fun _ => ?_, fun e => absurd e (by decide)⟩
              show 0 ≤ cmpVK (vK y) (vK x)
              have h1 := (h.all y hy).1 rfl
              have h2 : cmpVK (bK b) (vK y) ≤ 0 := by rw [ordV.neg (vK y)]; omega
              have h3 := le_transV (Int.le_of_lt hlt) h2
              rw [ordV.neg (vK x)]; omega
            · obtain ⟨ho, hlt⟩ := hb
              subst ho
              rw [cmpV_vK] at hlt
              have hlt : 0 < cmpVK (vK x) (bK b) := hlt
              refine ⟨fun e => absurd e (by decide), fun _ => ?_⟩
              show cmpVK (vK y) (vK x) ≤ 0
              have h1 := (h.all y hy).2 rfl
              have h2 : cmpVK (bK b) (vK x) ≤ 0 := by rw [ordV.neg (vK x)]; omega
              exact le_transV h1 h2
        · obtain rfl := List.mem_singleton.1 hy
          exact ⟨fun _ => by show 0 ≤ cmpVK (vK y) (vK y); rw [irrV]; omega, fun _ => by show cmpVK (vK y) (vK y) ≤ 0; rw [irrV]; omega⟩
      · rw [bstep_2 hb]
        have hf : b.f = true := by
          cases hf : b.f with
          | true => rfl
          | false => exact absurd (.inl hf) hb
        rcases h with ⟨_, h0⟩ | h
        · rw [h0] at hf; cases hf
        · obtain ⟨z, hz, ez⟩ := h.mem
          refine ⟨hf, ⟨z, by simp [hz], ez⟩, fun y hy => ?_⟩
          rcases List.mem_append.1 hy with hy | hy
          · exact h.all y hy
          · obtain rfl := List.mem_singleton.1 hy
            refine ⟨fun ho => ?_, fun ho => ?_⟩
            · have : ¬ cmpV y.k y.n y.s b.k b.n b.s < 0 := fun hh => hb (.inr (.inr (.inl ⟨ho, hh⟩)))
              rw [cmpV_vK] at this
              show 0 ≤ cmpVK (y.k, y.n, y.s) (b.k, b.n, b.s)
              omega
            · have : ¬ 0 < cmpV y.k y.n y.s b.k b.n b.s := fun hh => hb (.inr (.inr (.inr ⟨ho, hh⟩)))
              rw [cmpV_vK] at this
              show cmpVK (y.k, y.n, y.s) (b.k, b.n, b.s) ≤ 0
              omega
    have := best_is hop (l := l) (b := bstep op b x) (p := p ++ [x]) (fun y hy => hc y (by simp [hy])) (.inr hst)
    rw [List.append_assoc] at this
    exact this
theorem best_ext {op : List UInt8} (hop : op = bMin ∨ op = bMax) {l m : List ItI} (hl : ∀ x ∈ l, 0 < x.c) (hm : ∀ x ∈ m, 0 < x.c) (h : ∀ v, (∃ x ∈ l, vK x = v) ↔ ∃ x ∈ m, vK x = v) : bestP op l = bestP op m := by
  have a := best_is hop (p := []) (b := ⟨0, 0, [], false⟩) hl (.inl ⟨rfl, rfl⟩)
  have b := best_is hop (p := []) (b := ⟨0, 0, [], false⟩) hm (.inl ⟨rfl, rfl⟩)
  rw [List.nil_append] at a b
  change (l = [] ∧ bestP op l = _) ∨ BestIs op l (bestP op l) at a
  change (m = [] ∧ bestP op m = _) ∨ BestIs op m (bestP op m) at b
  rcases a with ⟨al, ab⟩ | a
  · rcases b with ⟨_, bb⟩ | b
    · rw [ab, bb]
    · obtain ⟨x, hx, ex⟩ := b.mem
      obtain ⟨y, hy, _⟩ := (h _).2 ⟨x, hx, ex⟩
      rw [al] at hy; cases hy
  · rcases b with ⟨bl, _⟩ | b
    · obtain ⟨x, hx, ex⟩ := a.mem
      obtain ⟨y, hy, _⟩ := (h _).1 ⟨x, hx, ex⟩
      rw [bl] at hy; cases hy
    · obtain ⟨x, hx, ex⟩ := a.mem
      obtain ⟨y, hy, ey⟩ := b.mem
      obtain ⟨x', hx', ex'⟩ := (h _).1 ⟨x, hx, ex⟩
      obtain ⟨y', hy', ey'⟩ := (h _).2 ⟨y, hy, ey⟩
      have h1 := a.all y' hy'
      have h2 := b.all x' hx'
      rw [ey'] at h1
      rw [ex'] at h2
      have e : cmpVK (bK (bestP op m)) (bK (bestP op l)) = 0 := by
        have hn := ordV.neg (bK (bestP op l)) (bK (bestP op m))
        rcases hop with ho | ho
        · have := h1.1 ho; have := h2.1 ho; omega
        · have := h1.2 ho; have := h2.2 ho; omega
      have ek := (ordV.eq _ _).1 e
      have ef : (bestP op l).f = (bestP op m).f := by rw [a.f, b.f]
      generalize bestP op l = u at *
      generalize bestP op m = w at *
      obtain ⟨k, n, s, f⟩ := u
      obtain ⟨k', n', s', f'⟩ := w
      simp only [bK, Prod.mk.injEq] at ek
      simp only at ef
      simp [ek, ef]
end Go.Abs

namespace Go.Abs
open Go.Proofs Go.Proofs.K17 Go.Proofs.D17 Go.RowKit
def stsP (op : List UInt8) (l : List (List ItI)) : List StI := l.map (ofP op)
theorem cell_sts (op : List UInt8) (l : List (List ItI)) : (cellP op l l.length).map CeI.st = stsP op l := by
  unfold cellP stsP
  apply List.ext_getElem
  · simp
  · intro i h1 h2
    have hi : i < l.length := by simpa using h2
    simp [List.getElem?_eq_getElem hi]
def okL (l : List (List ItI)) : Prop := ∀ p ∈ l, ∀ x ∈ p, itOk x
theorem okL_tail {p : List ItI} {l : List (List ItI)} (h : okL (p :: l)) : okL l := fun q hq => h q (by simp [hq])
section
variable {op : List UInt8} {fam : Fam} (hf : famO op = some fam)
include hf
theorem fold_c : ∀ {l : List (List ItI)} (a : Int), okL l → (stsP op l).foldl (fun s c => wrap64 (s + c.n)) (wrap64 a) = wrap64 (a + sm ItI.c l.flatten)
  | [], a, _ => by show wrap64 a = wrap64 (a + 0); rw [Int.add_zero]
  | p :: l, a, h => by
    have h1 := (stOf_of hf (h p (by simp))).n
    show (stsP op l).foldl _ (wrap64 (wrap64 a + (ofP op p).n)) = _
    rw [h1, w64_add, w64_add2, fold_c _ (okL_tail h), List.flatten_cons, sm_append, Int.add_assoc]
theorem fold_t (hs : fam = .sum) : ∀ {l : List (List ItI)} (a : Int), okL l → ((stsP op l).foldl (fun s c => s + wv c.h c.l) a - (a + sm gT l.flatten)) % 340282366920938463463374607431768211456 = 0
  | [], a, _ => by show (a - (a + 0)) % _ = 0; omega
  | p :: l, a, h => by
    have h1 := sg_w ((stOf_of hf (h p (by simp))).w.1 hs)
    have ih := fold_t hs (l := l) (a + wv (ofP op p).h (ofP op p).l) (okL_tail h)
    have h2 := sg_mod (sm gT p)
    show ((stsP op l).foldl _ (a + wv (ofP op p).h (ofP op p).l) - _) % _ = 0
    rw [List.flatten_cons, sm_append]
    rw [h1] at ih ⊢
    omega
theorem fold_b (hs : fam = .smp) : ∀ {l : List (List ItI)} {b : Bks} (g : Int → Int), okL l → Asc b → WfB b → (∀ k, tot b k = wrap64 (g k)) →
    Asc ((stsP op l).foldl (fun b c => normB (b ++ c.bks)) b) ∧ WfB ((stsP op l).foldl (fun b c => normB (b ++ c.bks)) b) ∧ ∀ k, tot ((stsP op l).foldl (fun b c => normB (b ++ c.bks)) b) k = wrap64 (g k + sm (gB k) l.flatten)
  | [], b, g, _, h1, h2, h3 => ⟨h1, h2, fun k => by show tot b k = wrap64 (g k + 0); rw [Int.add_zero, h3]⟩
  | p :: l, b, g, h, h1, h2, h3 => by
    obtain ⟨b1, b2, b3⟩ := (stOf_of hf (h p (by simp))).b.1 hs
    have hw : WfB (b ++ (ofP op p).bks) := fun y hy => by
      rcases List.mem_append.1 hy with hh | hh
      · exact h2 y hh
      · exact b2 y hh
    obtain ⟨n1, n2, n3⟩ := norm_ok hw
    have ih := fold_b hs (l := l) (b := normB (b ++ (ofP op p).bks)) (fun k => g k + sm (gB k) p) (okL_tail h) n1 n2 fun k => by
      rw [n3, tot_append b1 b2, b3, h3, w64_add, w64_add2]
    refine ⟨ih.1, ih.2.1, fun k => ?_⟩
    have := ih.2.2 k
    rw [List.flatten_cons, sm_append, ← Int.add_assoc]
    exact this
theorem flat_k {f : Bool} (hs : fam = .keep f) : ∀ {l : List (List ItI)} (k : KeyT), okL l → wrap64 (cnt f ((stsP op l).flatMap StI.its) k) = wrap64 (cnt f l.flatten k)
  | [], k, _ => rfl
  | p :: l, k, h => by
    have h1 := ((stOf_of hf (h p (by simp))).i.1 f hs).2 k
    have ih := flat_k hs (l := l) k (okL_tail h)
    have e1 : cnt f ((stsP op (p :: l)).flatMap StI.its) k = cnt f (ofP op p).its k + cnt f ((stsP op l).flatMap StI.its) k := sm_append _ _ _
    have e2 : cnt f (p :: l).flatten k = cnt f p k + cnt f l.flatten k := sm_append _ _ _
    rw [e1, e2, h1, w64_add, ← w64_add2, ih, w64_add2]
theorem merged (hk : fam ≠ .keep true) {l : List (List ItI)} (h : okL l) : StOf fam (foldM op l) l.flatten := by
  have : ∀ (l : List (List ItI)) (m : StI) (L : List ItI), okL l → StOf fam m L → StOf fam (l.foldl (fun m p => mergeP op m (ofP op p)) m) (L ++ l.flatten) := by
    intro l
    induction l with
    | nil => intro m L _ h; rw [List.flatten_nil, List.append_nil]; exact h
    | cons p l ih =>
      intro m L h hm
      have h1 := stOf_join hk hm (stOf_of hf (h p (by simp)))
      rw [← merge_join hf] at h1
      have := ih _ _ (okL_tail h) h1
      rw [List.foldl_cons, List.flatten_cons, ← List.append_assoc]
      exact this
  have := this l StI.z [] h (stOf_z fam)
  rwa [List.nil_append] at this
theorem merged_keep (hk : fam = .keep true) {l : List (List ItI)} (h : okL l) : (foldM op l).n = wrap64 (sm ItI.c l.flatten) ∧ (foldM op l).its = (stsP op l).flatMap StI.its := by
  subst hk
  have : ∀ (l : List (List ItI)) (m : StI) (a : Int), okL l → m.n = wrap64 a → (l.foldl (fun m p => mergeP op m (ofP op p)) m).n = wrap64 (a + sm ItI.c l.flatten) ∧ (l.foldl (fun m p => mergeP op m (ofP op p)) m).its = m.its ++ (stsP op l).flatMap StI.its := by
    intro l
    induction l with
    | nil =>
      intro m a _ h
      refine ⟨?_, ?_⟩
      · show m.n = wrap64 (a + 0); rw [Int.add_zero, h]
      · show m.its = m.its ++ []; rw [List.append_nil]
    | cons p l ih =>
      intro m a h hm
      have h1 := (stOf_of hf (h p (by simp))).n
      have hn : (mergeP op m (ofP op p)).n = wrap64 (a + sm ItI.c p) := by
        rw [merge_join hf]
        show wrap64 (m.n + (ofP op p).n) = _
        rw [hm, h1, w64_add, w64_add2]
      have hi : (mergeP op m (ofP op p)).its = m.its ++ (ofP op p).its := by rw [merge_join hf]; rfl
      obtain ⟨g1, g2⟩ := ih (mergeP op m (ofP op p)) _ (okL_tail h) hn
      refine ⟨?_, ?_⟩
      · rw [List.foldl_cons, g1, List.flatten_cons, sm_append, Int.add_assoc]
      · rw [List.foldl_cons, g2, hi, List.append_assoc]; rfl
  have := this l StI.z 0 h w64_0.symm
  rw [Int.zero_add] at this
  exact this
theorem merged_n {l : List (List ItI)} (h : okL l) : (foldM op l).n = wrap64 (sm ItI.c l.flatten) := by
  by_cases hk : fam = .keep true
  · exact (merged_keep hf hk h).1
  · exact (merged hf hk h).n
end
theorem cntP_sts (C : List CeI) : cntP C = (C.map CeI.st).foldl (fun s c => wrap64 (s + c.n)) 0 := by unfold cntP; rw [List.foldl_map]
theorem mrgB_sts (C : List CeI) : mrgB C = (C.map CeI.st).foldl (fun b c => normB (b ++ c.bks)) [] := by unfold mrgB; rw [List.foldl_map]
theorem itsOf_sts (C : List CeI) : itsOf C = (C.map CeI.st).flatMap StI.its := by unfold itsOf; rw [List.flatMap_map]
theorem sumP_sts {op : List UInt8} (hd : op ≠ bDecay) (param t : Int) (C : List CeI) : sumP op param t C = (C.map CeI.st).foldl (fun s c => s + wv c.h c.l) 0 := by
  unfold sumP
  rw [List.foldl_map]
  congr 1
  funext s c
  unfold partP; rw [if_neg hd]
theorem cnt_pos {f : Bool} {k : KeyT} : ∀ {l : List ItI}, (∀ x ∈ l, 1 ≤ x.c ∧ x.c ≤ 1000) → 0 ≤ cnt f l k ∧ cnt f l k ≤ 1000 * l.length ∧ ((∃ x ∈ l, ky f x = k) → 1 ≤ cnt f l k)
  | [], _ => by
    have e : cnt f [] k = 0 := rfl
    rw [e]
    exact ⟨Int.le_refl _, by simp, fun ⟨x, hx, _⟩ => by cases hx⟩
  | y :: l, h => by
    have hy := h y (by simp)
    obtain ⟨h1, h2, h3⟩ := cnt_pos (f := f) (k := k) (l := l) fun x hx => h x (by simp [hx])
    have e : cnt f (y :: l) k = cntG f k y + cnt f l k := rfl
    have hl : ((y :: l).length : Int) = l.length + 1 := by simp
    rw [e, hl]
    have hg : (ky f y = k → cntG f k y = y.c) ∧ (ky f y ≠ k → cntG f k y = 0) := ⟨fun e => by unfold cntG; rw [if_pos e], fun e => by unfold cntG; rw [if_neg e]⟩
    by_cases hk : ky f y = k
    · rw [hg.1 hk]
      exact ⟨by omega, by omega, fun _ => by omega⟩
    · rw [hg.2 hk]
      refine ⟨by omega, by omega, fun ⟨x, hx, ex⟩ => ?_⟩
      rcases List.mem_cons.1 hx with rfl | hx
      · exact absurd ex hk
      · have := h3 ⟨x, hx, ex⟩; omega
/-- the items kept: positive, and the values of the list -/
theorem kept_pos {s : StI} {L : List ItI} (hs : StOf (.keep false) s L) (hL : ∀ x ∈ L, 1 ≤ x.c ∧ x.c ≤ 1000) (hn : L.length ≤ 1000) : (∀ x ∈ s.its, 0 < x.c) ∧ ∀ k, (∃ x ∈ s.its, ky false x = k) ↔ ∃ x ∈ L, ky false x = k := by
  obtain ⟨i1, i2⟩ := hs.i.1 false rfl
  have hc : ∀ k, cnt false s.its k = cnt false L k := fun k => by
    obtain ⟨h1, h2, _⟩ := cnt_pos (f := false) (k := k) hL
    rw [i2, w64_in ⟨by omega, by omega⟩]
  constructor
  · intro x hx
    have h1 := srt_mem i1 hx
    rw [hc] at h1
    have h2 := (cnt_pos (f := false) (k := ky false x) hL).1
    have h3 := (i1.nrm x hx).2.1
    omega
  · intro k
    constructor
    · rintro ⟨x, hx, rfl⟩
      refine cnt_mem ?_
      rw [← hc, srt_mem i1 hx]
      exact (i1.nrm x hx).2.1
    · intro hk
      have := (cnt_pos (f := false) (k := k) hL).2.2 hk
      exact cnt_mem (by rw [hc]; omega)
theorem vK_ky {x : ItI} {v : Int × Int × List UInt8} : vK x = v ↔ ky false x = ([], 0, v.1, v.2.1, v.2.2) := by
  obtain ⟨k, n, s⟩ := v
  unfold vK ky kap markI
  simp
theorem cells_res (op : List UInt8) (param kind t : Int) {l : List (List ItI)} (hl : okL l) (hd : op ≠ bDecay) (hm : op = bMin ∨ op = bMax → ∀ p ∈ l, ∀ x ∈ p, 1 ≤ x.c ∧ x.c ≤ 1000) (hn : l.flatten.length ≤ 1000) :
    resP op param kind (cellP op l l.length) t = resP op param kind [⟨0, foldM op l⟩] t := by
  unfold resP
  cases hf : famO op with
  | none => rfl
  | some fam =>
    simp only
    have ec : cntP (cellP op l l.length) = cntP [⟨0, foldM op l⟩] := by
      rw [cntP_sts, cntP_sts, cell_sts]
      have := fold_c hf 0 hl
      rw [w64_0, Int.zero_add] at this
      rw [this]
      show _ = wrap64 (0 + (foldM op l).n)
      rw [Int.zero_add, merged_n hf hl, w64_in (w64_iOk _)]
    rw [ec]
    congr 1
    generalize cntP [⟨0, foldM op l⟩] = n
    unfold valP
    cases fam with
    | cnt => rfl
    | sum =>
      have es : ∀ m : Int, sg (sumP op param t (cellP op l l.length) * m) = sg (sumP op param t [⟨0, foldM op l⟩] * m) := fun m => by
        rw [sumP_sts hd, sumP_sts hd, cell_sts]
        have h1 := fold_t hf rfl 0 hl
        have h2 := sg_w ((merged hf (by simp) hl).w.1 rfl)
        show sg _ = sg ((0 + wv (foldM op l).h (foldM op l).l) * m)
        rw [h2]
        refine sg_congr ?_
        have h3 := sg_mod (sm gT l.flatten)
        rw [← Int.sub_mul]
        generalize (stsP op l).foldl (fun s c => s + wv c.h c.l) 0 = A at *
        have : (A - (0 + sg (sm gT l.flatten))) % 340282366920938463463374607431768211456 = 0 := by omega
        obtain ⟨q, hq⟩ := Int.dvd_of_emod_eq_zero this
        rw [hq, Int.mul_assoc, Int.mul_emod_right]
      have e1 : sg (sumP op param t (cellP op l l.length)) = sg (sumP op param t [⟨0, foldM op l⟩]) := by
        have := es 1
        rwa [Int.mul_one, Int.mul_one] at this
      have e2 := es 1000000
      show addV' op param kind t n _ = addV' op param kind t n _
      unfold addV'
      have e3 : sg (if kind = 2 then sumP op param t (cellP op l l.length) * 1000000 else sumP op param t (cellP op l l.length)) = sg (if kind = 2 then sumP op param t [⟨0, foldM op l⟩] * 1000000 else sumP op param t [⟨0, foldM op l⟩]) := by
        split
        · exact e2
        · exact e1
      rw [e1, e3]
    | smp =>
      have eb : mrgB (cellP op l l.length) = mrgB [⟨0, foldM op l⟩] := by
        rw [mrgB_sts, cell_sts]
        have h1 := fold_b hf rfl (fun _ => 0) hl asc_nil nil_wf fun k => w64_0.symm
        obtain ⟨m1, m2, m3⟩ := (merged hf (by simp) hl).b.1 rfl
        have hw : WfB ([] ++ (foldM op l).bks) := m2
        have e : mrgB [⟨0, foldM op l⟩] = normB ([] ++ (foldM op l).bks) := rfl
        rw [e, List.nil_append, norm_self m1 m2]
        exact asc_ext h1.1 h1.2.1 m1 m2 fun k => by rw [h1.2.2, m3, Int.zero_add]
      show smpV param kind _ = smpV param kind _
      unfold smpV; rw [eb]
    | keep f =>
      show keepV op _ = keepV op _
      cases f with
      | true =>
        have ei : itsOf (cellP op l l.length) = itsOf [⟨0, foldM op l⟩] := by
          rw [itsOf_sts, cell_sts]
          show _ = (foldM op l).its ++ []
          rw [List.append_nil, (merged_keep hf rfl hl).2]
        unfold keepV; rw [ei]
      | false =>
        have hM := merged hf (by simp) hl
        have em : itsOf [⟨0, foldM op l⟩] = (foldM op l).its := by show (foldM op l).its ++ [] = _; rw [List.append_nil]
        unfold keepV
        rw [em, itsOf_sts, cell_sts]
        by_cases h0 : op = bDistinct
        · rw [if_pos h0, if_pos h0]
          have : distV ((stsP op l).flatMap StI.its) = distV (foldM op l).its := dist_ext fun k => by
            rw [flat_k hf rfl k hl, (hM.i.1 false rfl).2, w64_in (w64_iOk _)]
          rw [this]
        · rw [if_neg h0, if_neg h0]
          have hop : op = bMin ∨ op = bMax := by
            unfold famO at hf
            repeat' split at hf
            all_goals first | cases hf; done | exact .inl (by assumption) | exact .inr (by assumption) | (exfalso; apply h0; assumption) | cases hf
          have hc := hm hop
          have hflat : ∀ x ∈ l.flatten, 1 ≤ x.c ∧ x.c ≤ 1000 := fun x hx => by
            obtain ⟨p, hp, hx⟩ := List.mem_flatten.1 hx
            exact hc p hp x hx
          obtain ⟨k1, k2⟩ := kept_pos hM hflat hn
          have part : ∀ p ∈ l, (∀ x ∈ (ofP op p).its, 0 < x.c) ∧ ∀ k, (∃ x ∈ (ofP op p).its, ky false x = k) ↔ ∃ x ∈ p, ky false x = k := fun p hp =>
            kept_pos (stOf_of hf (hl p hp)) (hc p hp) (by
              have : p.length ≤ l.flatten.length := (List.sublist_flatten_of_mem hp).length_le
              omega)
          have eb : bestP op ((stsP op l).flatMap StI.its) = bestP op (foldM op l).its := by
            refine best_ext hop (fun x hx => ?_) k1 fun v => ?_
            · obtain ⟨s, hs, hx⟩ := List.mem_flatMap.1 hx
              obtain ⟨p, hp, rfl⟩ := List.mem_map.1 hs
              exact (part p hp).1 x hx
            · constructor
              · rintro ⟨x, hx, ex⟩
                obtain ⟨s, hs, hx⟩ := List.mem_flatMap.1 hx
                obtain ⟨p, hp, rfl⟩ := List.mem_map.1 hs
                obtain ⟨y, hy, ey⟩ := ((part p hp).2 _).1 ⟨x, hx, vK_ky.1 ex⟩
                obtain ⟨z, hz, ez⟩ := (k2 _).2 ⟨y, List.mem_flatten.2 ⟨p, hp, hy⟩, ey⟩
                exact ⟨z, hz, vK_ky.2 ez⟩
              · rintro ⟨x, hx, ex⟩
                obtain ⟨y, hy, ey⟩ := (k2 _).1 ⟨x, hx, vK_ky.1 ex⟩
                obtain ⟨p, hp, hy⟩ := List.mem_flatten.1 hy
                obtain ⟨z, hz, ez⟩ := ((part p hp).2 _).2 ⟨y, hy, ey⟩
                exact ⟨z, List.mem_flatMap.2 ⟨ofP op p, List.mem_map.2 ⟨p, hp, rfl⟩, hz⟩, vK_ky.2 ez⟩
          rw [eb]
end Go.Abs

namespace Go.Abs
open Go.Proofs Go.Proofs.K17 Go.Proofs.D17 Go.RowKit
theorem len_pts (l : List (List ItI)) : (ptsL l).length = l.length := List.length_map ..
theorem agg25 : aggA PA 25 = some false := by kernel_rfl
theorem size25 : sizeA PA 25 = some 1 := by kernel_rfl
theorem take_pt {l : List (List ItI)} {i : Nat} (h : i < l.length) : takeAt PA 25 (ptsL l) i 0 = some (.sl 6 (itsL l[i]) .no) := by
  unfold takeAt
  rw [show (ptsL l)[i]? = some (ptA l[i]) by unfold ptsL; rw [List.getElem?_map, List.getElem?_eq_getElem h]; rfl]
  simp only [agg25, size25, takeA]
  rfl
theorem len_cell (op : List UInt8) (l : List (List ItI)) (i : Nat) : (cesL (cellP op l i)).length = i := by
  rw [len_ces]; unfold cellP; simp
theorem cell_succ (op : List UInt8) {l : List (List ItI)} {i : Nat} (h : i < l.length) : cesL (cellP op l (i + 1)) = cesL (cellP op l i) ++ [ceA ⟨i, ofP op l[i]⟩] := by
  unfold cesL cellP
  rw [List.range_succ, List.map_append, List.map_append]
  simp [List.getElem?_eq_getElem h]
theorem foldM_succ (op : List UInt8) {l : List (List ItI)} {i : Nat} (h : i < l.length) : foldM op (l.take (i + 1)) = mergeP op (foldM op (l.take i)) (ofP op l[i]) := by
  unfold foldM
  rw [List.take_succ_eq_append_getElem h, List.foldl_append]; rfl
theorem foldM_b (op : List UInt8) {l : List (List ItI)} (hx : okL l) (hs : ∀ p ∈ l, p.length ≤ 40) : ∀ {i : Nat}, i ≤ l.length → ∃ n, n ≤ 40 * i ∧ StB (foldM op (l.take i)) n
  | 0, _ => ⟨0, Nat.zero_le _, stB_z⟩
  | i + 1, hi => by
    obtain ⟨n, hn, hB⟩ := foldM_b op hx hs (i := i) (by omega)
    have hil : i < l.length := by omega
    have hm := List.getElem_mem hil
    have hp := hs _ hm
    rw [foldM_succ op hil]
    exact ⟨n + l[i].length, by omega, stB_merge hB (ofP_ok op (hx _ hm)) op⟩
theorem kept_from {f : Bool} {s : StI} {L : List ItI} (hs : StOf (.keep f) s L) : ∀ z ∈ s.its, ∃ x ∈ L, ky f x = ky f z := fun z hz => by
  obtain ⟨i1, i2⟩ := hs.i.1 f rfl
  refine cnt_mem fun e => ?_
  have := srt_mem i1 hz
  rw [i2, e, w64_0] at this
  exact (i1.nrm z hz).2.1 this.symm
theorem itW_of {fam : Fam} {s : StI} {L : List ItI} (hs : StOf fam s L) (hL : ∀ x ∈ L, okI x ∧ x.s.length ≤ 100) : ∀ z ∈ s.its, itW z := fun z hz => by
  by_cases hf : ∃ f, fam = .keep f
  · obtain ⟨f, rfl⟩ := hf
    obtain ⟨x, hx, e⟩ := kept_from hs z hz
    have hn := ((hs.i.1 f rfl).1.nrm z hz).2.2
    obtain ⟨⟨h1, h2⟩, h3⟩ := hL x hx
    have ek : x.k = z.k ∧ x.n = z.n ∧ x.s = z.s := by
      cases f
      · have e : ([], (0 : Int), x.k, x.n, x.s) = ([], (0 : Int), z.k, z.n, z.s) := e
        simp only [Prod.mk.injEq] at e
        exact e.2.2
      · have e : (x.src, x.q, x.k, x.n, x.s) = (z.src, z.q, z.k, z.n, z.s) := e
        simp only [Prod.mk.injEq] at e
        exact e.2.2
    refine ⟨⟨by rw [← ek.2.1]; exact h1.1, hn⟩, by rw [← ek.1]; exact h2, ?_⟩
    rw [← ek.2.2]; unfold maxLen; omega
  · rw [hs.i.2 fun f e => hf ⟨f, e⟩] at hz; cases hz
abbrev tC : List (FuncId × Spec) := [(7, s7), (10, s10), (11, s11), (12, s12), (15, s15), (16, s16), (18, s18)]
theorem d11 {l : List ItI} (h : l.length ≤ maxLen) : tbl tC 11 [.sl 6 (itsL l) .no] = some (.bool (smallP l), []) := by
  rw [tb_miss (by decide), tb_miss (by decide), tb_hit]; simp only [s11, show unL unI (itsL l) = some l from unL_map unI_ok l]
  rw [if_pos ⟨.inl trivial, h⟩]
theorem d12 {op : List UInt8} {l : List ItI} (h : l.length ≤ 1000) (hx : ∀ x ∈ l, itOk x) : tbl tC 12 [.str op, .sl 6 (itsL l) .no] = some (stA (ofP op l), []) := by
  rw [tb_miss (by decide), tb_miss (by decide), tb_miss (by decide), tb_hit]; simp only [s12, show unL unI (itsL l) = some l from unL_map unI_ok l]
  rw [if_pos ⟨.inl trivial, h, hx⟩]
theorem d15 {op : List UInt8} {a b : StI} {n m : Nat} (ha : StB a n) (hb : StB b m) (h : n + m ≤ 1000000) : tbl tC 15 [.str op, .agg (stC a), .agg (stC b)] = some (stA (mergeP op a b), []) := by
  rw [tb_miss (by decide), tb_miss (by decide), tb_miss (by decide), tb_miss (by decide), tb_hit]
  simp only [s15, show unSt (.agg (stC a)) = some a from unSt_ok a, show unSt (.agg (stC b)) = some b from unSt_ok b]
  have := ha.i
  have := hb.i
  rw [if_pos ⟨ha.ok (by omega), hb.ok (by omega), by omega⟩]
theorem d18 {op : List UInt8} {param kind t : Int} {o : Own} {C : List CeI} (hC : cesOk C) (hp : iOk param) : tbl tC 18 [.agg (exC 5 op param), .int .i64 kind, .sl 6 (cesL C) o, .int .i64 t] = some (resP op param kind C t, []) := by
  rw [tb_miss (by decide), tb_miss (by decide), tb_miss (by decide), tb_miss (by decide), tb_miss (by decide), tb_miss (by decide), tb_hit]
  simp only [s18, show unL unCe (cesL C) = some C from unL_map unCe_ok C]
  rw [if_pos ⟨⟨⟨rfl, rfl, rfl⟩, by simp⟩, .inl trivial, hC, hp⟩]
theorem resP_form (op : List UInt8) (param kind t : Int) (C : List CeI) : ∃ a b s, resP op param kind C t = .agg [.int .i64 a, .int .i64 b, .str s] := by
  unfold resP
  split
  · exact ⟨_, _, _, rfl⟩
  · split
    · exact ⟨_, _, _, rfl⟩
    · exact valP_form _ _ _ _ _ _ _
theorem p6 (op : List UInt8) (param kind : Int) (l : List (List ItI)) (t : Int) (_hl : l.length ≤ maxLen) (ol : ∀ p ∈ l, okP p) (hp : iOk param) :
    PureOk PA GA XC RC (itbl []) (a6 op param kind l t) [] 6 [.str op, .int .i64 param, .int .i64 kind, .sl 1 (ptsL l) .no, .int .i64 t] (.bool true, []) := by
  constructor
  rw [w6]
  unfold RC
  have yes : RetIs (AV.bool true) [] (AV.bool true, []) := retIs_iff.2 rfl
  refine ⟨callIs_iff.2 rfl, fun _ => ⟨_, callIs_iff.2 rfl, fun hk => ⟨fun _ => yes, fun c1 => ⟨fun _ => yes, fun c2 => ?_⟩⟩, fun _ => yes⟩, fun h => (nomatch h)⟩
  have c1 : op ≠ bDecay := fun e => by subst e; exact absurd c1 (by decide)
  have c2 := of_decide_eq_false c2
  rw [len_pts] at c2
  obtain ⟨fam, hf⟩ := Option.isSome_iff_exists.1 hk
  have okl : okL l := fun p hp x hx => ((ol p hp).2 x hx).1
  refine ⟨_, _, _, _, _, callIs_iff.2 rfl, ⟨⟨0, ⟨rfl⟩, ⟨rfl⟩, ⟨Nat.zero_le _, by rw [List.take_zero]; rfl⟩, trivial⟩, fun i hi => ⟨fun lt => ?_, fun ge => ?_⟩⟩, fun _ hS _ => ?_⟩
  · have lt := of_decide_eq_true lt
    rw [len_pts] at lt
    have hil : i < l.length := by omega
    have hm := List.getElem_mem hil
    have h11 := d11 (ol _ hm).1
    refine ⟨⟨by omega, by rw [len_pts]; omega⟩, _, by rw [Int.toNat_natCast]; exact take_pt hil, _, callIs_iff.2 h11, fun hsm => ?_, fun _ => yes⟩
    have h40 := small_len hsm
    have hprev : ∀ p ∈ l.take i, p.length ≤ 40 := fun p hp => small_len (List.all_eq_true.1 hi.2 p hp)
    have oki : okL (l.take i) := fun p hp => okl p (List.mem_of_mem_take hp)
    obtain ⟨n, hn, hB⟩ := foldM_b op oki hprev (i := i) (by rw [List.length_take]; omega)
    rw [List.take_take, Nat.min_self] at hB
    have Bi := ofP_ok op (okl _ hm)
    have h12 := d12 (op := op) (show l[i].length ≤ 1000 by omega) (okl _ hm)
    have h15 := d15 (op := op) hB Bi (by omega)
    refine ⟨⟨by omega, by rw [len_pts]; omega⟩, _, by rw [Int.toNat_natCast]; exact take_pt hil, _, _, _, _, _, callIs_iff.2 h12, .inl rfl, by rw [len_cell]; omega, by rw [len_cell], _, _, _, _, _, callIs_iff.2 h15, i + 1, ⟨?_⟩, ⟨?_⟩, ⟨hil, all_succ hil hi.2 hsm⟩, by omega⟩
    · rw [wrapN (by omega), cell_succ op hil]; rfl
    · rw [foldM_succ op hil, len_cell]
  · have ge := of_decide_eq_false ge
    rw [len_pts] at ge
    have e : i = l.length := by omega
    subst e
    have h2 := hi.2
    rw [List.take_length] at h2
    exact ⟨(), ⟨rfl⟩, ⟨by rw [List.take_length]⟩, h2, trivial⟩
  have h40 : ∀ p ∈ l, p.length ≤ 40 := fun p hp => small_len (List.all_eq_true.1 hS p hp)
  have hlen : ∀ (k : Nat) (h : k < l.length), l[k].length ≤ 40 := fun k h => h40 _ (List.getElem_mem h)
  have h100 : ∀ p ∈ l, ∀ x ∈ p, x.s.length ≤ 100 := fun p hp x hx => by
    have := List.all_eq_true.1 hS p hp
    unfold smallP at this
    simp only [Bool.and_eq_true] at this
    have := List.all_eq_true.1 this.1 x hx
    unfold smI at this
    simp only [Bool.and_eq_true, decide_eq_true_eq] at this
    exact this.1
  refine ⟨⟨fun g1 => ⟨⟨0, ⟨rfl⟩, ⟨rfl⟩, ⟨Nat.zero_le _, by rw [List.take_zero]; rfl⟩, trivial⟩, fun i hi => ⟨fun lt => ?_, fun ge => ?_⟩⟩, fun g1 => ⟨fun g2 => ⟨⟨0, ⟨rfl⟩, ⟨rfl⟩, ⟨Nat.zero_le _, by rw [List.take_zero]; rfl⟩, trivial⟩, fun i hi => ⟨fun lt => ?_, fun ge => ?_⟩⟩, fun g2 => ⟨fun g3 => ⟨⟨0, ⟨rfl⟩, ⟨rfl⟩, ⟨Nat.zero_le _, by rw [List.take_zero]; rfl⟩, trivial⟩, fun i hi => ⟨fun lt => ?_, fun ge => ?_⟩⟩, fun g3 => ⟨fun g4 => ⟨⟨0, ⟨rfl⟩, ⟨rfl⟩, ⟨Nat.zero_le _, by rw [List.take_zero]; rfl⟩, trivial⟩, fun i hi => ⟨fun lt => ?_, fun ge => ?_⟩⟩, fun g4 => ⟨(), ⟨rfl⟩, ⟨rfl⟩, fun h => ?_, trivial⟩⟩⟩⟩⟩, fun _ hI _ => ?_⟩
  · have lt := of_decide_eq_true lt
    rw [len_pts] at lt
    have hil : i < l.length := by omega
    have hgD : ∀ {k : Nat} (h : k < l.length), l.getD k [] = l[k] := fun {k} h => by rw [List.getD_eq_getElem?_getD, List.getElem?_eq_getElem h]; rfl
    refine ⟨⟨(i, 0), ⟨rfl⟩, ⟨rfl⟩, ⟨hil, fun q _ => ⟨Nat.zero_le _, by rw [List.take_zero]; rfl⟩⟩, rfl⟩, fun p hp hk2 => ?_⟩
    have hpl := hp.1
    obtain ⟨hpj, hpc⟩ := hp.2 _ (List.getElem?_eq_getElem hpl)
    have hql := hlen p.1 hpl
    refine ⟨⟨by omega, by rw [len_pts]; omega⟩, _, by rw [Int.toNat_natCast]; exact take_pt hpl, fun lt2 => ?_, fun ge2 => ?_⟩
    · have lt2 := of_decide_eq_true lt2
      rw [len_its] at lt2
      have hj : p.2 < l[p.1].length := by omega
      refine ⟨⟨by omega, by rw [len_pts]; omega⟩, _, by rw [Int.toNat_natCast]; exact take_pt hpl, ⟨by omega, by rw [len_its]; omega⟩, _, by rw [Int.toNat_natCast]; exact take_ic hj, fun _ => yes, fun d => ⟨⟨by omega, by rw [len_pts]; omega⟩, _, by rw [Int.toNat_natCast]; exact take_pt hpl, ⟨by omega, by rw [len_its]; omega⟩, _, by rw [Int.toNat_natCast]; exact take_ic hj, fun _ => yes, fun e => ⟨(p.1, p.2 + 1), ⟨by rw [wrapN (by omega)]⟩, ⟨rfl⟩, ⟨hpl, fun q hq => ?_⟩, hk2, ?_⟩⟩⟩
      · have d := of_decide_eq_false d
        have e := of_decide_eq_false e
        rw [List.getElem?_eq_getElem hpl] at hq
        injection hq with hq; subst hq
        refine ⟨hj, all_succ hj hpc ?_⟩
        unfold cnI
        rw [decide_eq_true (by omega), decide_eq_true (by omega)]; rfl
      · show (l.getD p.1 []).length - (p.2 + 1) < (l.getD p.1 []).length - p.2
        rw [hgD hpl]; omega
    · have ge2 := of_decide_eq_false ge2
      rw [len_its] at ge2
      have e : i = p.1 := by
        have := congrArg (fun o : Option AV => match o with | some (.int _ z) => z | _ => 0) hk2
        have this : (i : Int) = p.1 := this
        omega
      refine ⟨p.1 + 1, ⟨by rw [wrapN (by omega)]⟩, ⟨rfl⟩, ⟨hpl, ?_⟩, by omega⟩
      have h2 := hi.2
      rw [e] at h2
      refine all_succ hpl h2 ?_
      rw [List.take_of_length_le (by omega)] at hpc
      exact hpc
  · have ge := of_decide_eq_false ge
    rw [len_pts] at ge
    have h2 := hi.2
    rw [List.take_of_length_le (by omega)] at h2
    exact ⟨(), ⟨rfl⟩, ⟨rfl⟩, fun _ => h2, trivial⟩
  · have lt := of_decide_eq_true lt
    rw [len_pts] at lt
    have hil : i < l.length := by omega
    have hgD : ∀ {k : Nat} (h : k < l.length), l.getD k [] = l[k] := fun {k} h => by rw [List.getD_eq_getElem?_getD, List.getElem?_eq_getElem h]; rfl
    refine ⟨⟨(i, 0), ⟨rfl⟩, ⟨rfl⟩, ⟨hil, fun q _ => ⟨Nat.zero_le _, by rw [List.take_zero]; rfl⟩⟩, rfl⟩, fun p hp hk2 => ?_⟩
    have hpl := hp.1
    obtain ⟨hpj, hpc⟩ := hp.2 _ (List.getElem?_eq_getElem hpl)
    have hql := hlen p.1 hpl
    refine ⟨⟨by omega, by rw [len_pts]; omega⟩, _, by rw [Int.toNat_natCast]; exact take_pt hpl, fun lt2 => ?_, fun ge2 => ?_⟩
    · have lt2 := of_decide_eq_true lt2
      rw [len_its] at lt2
      have hj : p.2 < l[p.1].length := by omega
      refine ⟨⟨by omega, by rw [len_pts]; omega⟩, _, by rw [Int.toNat_natCast]; exact take_pt hpl, ⟨by omega, by rw [len_its]; omega⟩, _, by rw [Int.toNat_natCast]; exact take_ic hj, fun _ => yes, fun d => ⟨⟨by omega, by rw [len_pts]; omega⟩, _, by rw [Int.toNat_natCast]; exact take_pt hpl, ⟨by omega, by rw [len_its]; omega⟩, _, by rw [Int.toNat_natCast]; exact take_ic hj, fun _ => yes, fun e => ⟨(p.1, p.2 + 1), ⟨by rw [wrapN (by omega)]⟩, ⟨rfl⟩, ⟨hpl, fun q hq => ?_⟩, hk2, ?_⟩⟩⟩
      · have d := of_decide_eq_false d
        have e := of_decide_eq_false e
        rw [List.getElem?_eq_getElem hpl] at hq
        injection hq with hq; subst hq
        refine ⟨hj, all_succ hj hpc ?_⟩
        unfold cnI
        rw [decide_eq_true (by omega), decide_eq_true (by omega)]; rfl
      · show (l.getD p.1 []).length - (p.2 + 1) < (l.getD p.1 []).length - p.2
        rw [hgD hpl]; omega
    · have ge2 := of_decide_eq_false ge2
      rw [len_its] at ge2
      have e : i = p.1 := by
        have := congrArg (fun o : Option AV => match o with | some (.int _ z) => z | _ => 0) hk2
        have this : (i : Int) = p.1 := this
        omega
      refine ⟨p.1 + 1, ⟨by rw [wrapN (by omega)]⟩, ⟨rfl⟩, ⟨hpl, ?_⟩, by omega⟩
      have h2 := hi.2
      rw [e] at h2
      refine all_succ hpl h2 ?_
      rw [List.take_of_length_le (by omega)] at hpc
      exact hpc
  · have ge := of_decide_eq_false ge
    rw [len_pts] at ge
    have h2 := hi.2
    rw [List.take_of_length_le (by omega)] at h2
    exact ⟨(), ⟨rfl⟩, ⟨rfl⟩, fun _ => h2, trivial⟩
  · have lt := of_decide_eq_true lt
    rw [len_pts] at lt
    have hil : i < l.length := by omega
    have hgD : ∀ {k : Nat} (h : k < l.length), l.getD k [] = l[k] := fun {k} h => by rw [List.getD_eq_getElem?_getD, List.getElem?_eq_getElem h]; rfl
    refine ⟨⟨(i, 0), ⟨rfl⟩, ⟨rfl⟩, ⟨hil, fun q _ => ⟨Nat.zero_le _, by rw [List.take_zero]; rfl⟩⟩, rfl⟩, fun p hp hk2 => ?_⟩
    have hpl := hp.1
    obtain ⟨hpj, hpc⟩ := hp.2 _ (List.getElem?_eq_getElem hpl)
    have hql := hlen p.1 hpl
    refine ⟨⟨by omega, by rw [len_pts]; omega⟩, _, by rw [Int.toNat_natCast]; exact take_pt hpl, fun lt2 => ?_, fun ge2 => ?_⟩
    · have lt2 := of_decide_eq_true lt2
      rw [len_its] at lt2
      have hj : p.2 < l[p.1].length := by omega
      refine ⟨⟨by omega, by rw [len_pts]; omega⟩, _, by rw [Int.toNat_natCast]; exact take_pt hpl, ⟨by omega, by rw [len_its]; omega⟩, _, by rw [Int.toNat_natCast]; exact take_ic hj, fun _ => yes, fun d => ⟨⟨by omega, by rw [len_pts]; omega⟩, _, by rw [Int.toNat_natCast]; exact take_pt hpl, ⟨by omega, by rw [len_its]; omega⟩, _, by rw [Int.toNat_natCast]; exact take_ic hj, fun _ => yes, fun e => ⟨(p.1, p.2 + 1), ⟨by rw [wrapN (by omega)]⟩, ⟨rfl⟩, ⟨hpl, fun q hq => ?_⟩, hk2, ?_⟩⟩⟩
      · have d := of_decide_eq_false d
        have e := of_decide_eq_false e
        rw [List.getElem?_eq_getElem hpl] at hq
        injection hq with hq; subst hq
        refine ⟨hj, all_succ hj hpc ?_⟩
        unfold cnI
        rw [decide_eq_true (by omega), decide_eq_true (by omega)]; rfl
      · show (l.getD p.1 []).length - (p.2 + 1) < (l.getD p.1 []).length - p.2
        rw [hgD hpl]; omega
    · have ge2 := of_decide_eq_false ge2
      rw [len_its] at ge2
      have e : i = p.1 := by
        have := congrArg (fun o : Option AV => match o with | some (.int _ z) => z | _ => 0) hk2
        have this : (i : Int) = p.1 := this
        omega
      refine ⟨p.1 + 1, ⟨by rw [wrapN (by omega)]⟩, ⟨rfl⟩, ⟨hpl, ?_⟩, by omega⟩
      have h2 := hi.2
      rw [e] at h2
      refine all_succ hpl h2 ?_
      rw [List.take_of_length_le (by omega)] at hpc
      exact hpc
  · have ge := of_decide_eq_false ge
    rw [len_pts] at ge
    have h2 := hi.2
    rw [List.take_of_length_le (by omega)] at h2
    exact ⟨(), ⟨rfl⟩, ⟨rfl⟩, fun _ => h2, trivial⟩
  · have lt := of_decide_eq_true lt
    rw [len_pts] at lt
    have hil : i < l.length := by omega
    have hgD : ∀ {k : Nat} (h : k < l.length), l.getD k [] = l[k] := fun {k} h => by rw [List.getD_eq_getElem?_getD, List.getElem?_eq_getElem h]; rfl
    refine ⟨⟨(i, 0), ⟨rfl⟩, ⟨rfl⟩, ⟨hil, fun q _ => ⟨Nat.zero_le _, by rw [List.take_zero]; rfl⟩⟩, rfl⟩, fun p hp hk2 => ?_⟩
    have hpl := hp.1
    obtain ⟨hpj, hpc⟩ := hp.2 _ (List.getElem?_eq_getElem hpl)
    have hql := hlen p.1 hpl
    refine ⟨⟨by omega, by rw [len_pts]; omega⟩, _, by rw [Int.toNat_natCast]; exact take_pt hpl, fun lt2 => ?_, fun ge2 => ?_⟩
    · have lt2 := of_decide_eq_true lt2
      rw [len_its] at lt2
      have hj : p.2 < l[p.1].length := by omega
      refine ⟨⟨by omega, by rw [len_pts]; omega⟩, _, by rw [Int.toNat_natCast]; exact take_pt hpl, ⟨by omega, by rw [len_its]; omega⟩, _, by rw [Int.toNat_natCast]; exact take_ic hj, fun _ => yes, fun d => ⟨⟨by omega, by rw [len_pts]; omega⟩, _, by rw [Int.toNat_natCast]; exact take_pt hpl, ⟨by omega, by rw [len_its]; omega⟩, _, by rw [Int.toNat_natCast]; exact take_ic hj, fun _ => yes, fun e => ⟨(p.1, p.2 + 1), ⟨by rw [wrapN (by omega)]⟩, ⟨rfl⟩, ⟨hpl, fun q hq => ?_⟩, hk2, ?_⟩⟩⟩
      · have d := of_decide_eq_false d
        have e := of_decide_eq_false e
        rw [List.getElem?_eq_getElem hpl] at hq
        injection hq with hq; subst hq
        refine ⟨hj, all_succ hj hpc ?_⟩
        unfold cnI
        rw [decide_eq_true (by omega), decide_eq_true (by omega)]; rfl
      · show (l.getD p.1 []).length - (p.2 + 1) < (l.getD p.1 []).length - p.2
        rw [hgD hpl]; omega
    · have ge2 := of_decide_eq_false ge2
      rw [len_its] at ge2
      have e : i = p.1 := by
        have := congrArg (fun o : Option AV => match o with | some (.int _ z) => z | _ => 0) hk2
        have this : (i : Int) = p.1 := this
        omega
      refine ⟨p.1 + 1, ⟨by rw [wrapN (by omega)]⟩, ⟨rfl⟩, ⟨hpl, ?_⟩, by omega⟩
      have h2 := hi.2
      rw [e] at h2
      refine all_succ hpl h2 ?_
      rw [List.take_of_length_le (by omega)] at hpc
      exact hpc
  · have ge := of_decide_eq_false ge
    rw [len_pts] at ge
    have h2 := hi.2
    rw [List.take_of_length_le (by omega)] at h2
    exact ⟨(), ⟨rfl⟩, ⟨rfl⟩, fun _ => h2, trivial⟩
  · rcases h with h | h
    · subst h; exact absurd g1 (by decide)
    · subst h; exact absurd g2 (by decide)
  have hflat : ∀ (l : List (List ItI)), (∀ p ∈ l, p.length ≤ 40) → l.flatten.length ≤ l.length * 40 := by
    intro l
    induction l with
    | nil => intro _; simp
    | cons p l ih =>
      intro h
      have h1 := h p (by simp)
      have h2 := ih fun q hq => h q (by simp [hq])
      rw [List.flatten_cons, List.length_append, List.length_cons]; omega
  have hfl := hflat l h40
  have ok1 : ∀ p ∈ l, ∀ x ∈ p, okI x ∧ x.s.length ≤ 100 := fun p hp x hx => ⟨(ol p hp).2 x hx, h100 p hp x hx⟩
  have stW : ∀ p ∈ l, ∀ z ∈ (ofP op p).its, itW z := fun p hp => itW_of (stOf_of hf (okl p hp)) (ok1 p hp)
  have C1 : cesOk (cellP op l l.length) := by
    refine ⟨by have := len_cell op l l.length; rw [len_ces] at this; omega, fun c hc => ?_⟩
    unfold cellP at hc
    obtain ⟨j, hj, rfl⟩ := List.mem_map.1 hc
    have hj := List.mem_range.1 hj
    have hm := List.getElem_mem hj
    have e : l.getD j [] = l[j] := by rw [List.getD_eq_getElem?_getD, List.getElem?_eq_getElem hj]; rfl
    have B := ofP_ok op (okl _ hm)
    have := hlen j hj
    have := B.i
    have := B.k
    show ceOk ⟨(j : Int), ofP op (l.getD j [])⟩
    rw [e]
    exact ⟨B.w, B.b, stW _ hm, by show (ofP op l[j]).its.length ≤ _; omega, by show (ofP op l[j]).bks.length ≤ _; omega⟩
  have C2 : cesOk [⟨0, foldM op l⟩] := by
    refine ⟨by simp, fun c hc => ?_⟩
    obtain rfl := List.mem_singleton.1 hc
    obtain ⟨n, hn, B⟩ := foldM_b op okl h40 (i := l.length) (Nat.le_refl _)
    rw [List.take_length] at B
    have := B.i
    have := B.k
    refine ⟨B.w, B.b, fun z hz => ?_, by show (foldM op l).its.length ≤ _; omega, by show (foldM op l).bks.length ≤ _; omega⟩
    by_cases hk : fam = .keep true
    · have e := (merged_keep hf hk okl).2
      have hz : z ∈ (foldM op l).its := hz
      rw [e] at hz
      obtain ⟨s, hs, hz⟩ := List.mem_flatMap.1 hz
      obtain ⟨p, hp, rfl⟩ := List.mem_map.1 hs
      exact stW p hp z hz
    · refine itW_of (merged hf hk okl) (fun x hx => ?_) z hz
      obtain ⟨p, hp, hx⟩ := List.mem_flatten.1 hx
      exact ok1 p hp x hx
  have hcn : op = bMin ∨ op = bMax → ∀ p ∈ l, ∀ x ∈ p, 1 ≤ x.c ∧ x.c ≤ 1000 := fun h p hp x hx => by
    have := List.all_eq_true.1 (List.all_eq_true.1 (hI h) p hp) x hx
    unfold cnI at this
    simpa using this
  have hE := cells_res op param kind t okl c1 hcn (by omega)
  obtain ⟨a, b, s, e⟩ := resP_form op param kind t (cellP op l l.length)
  have h1 := d18 (op := op) (kind := kind) (t := t) (o := .no) C1 hp
  have h2 := d18 (op := op) (kind := kind) (t := t) (o := .full) C2 hp
  rw [← hE] at h2
  rw [e] at h1 h2
  refine ⟨a, b, s, callIs_iff.2 h1, a, b, s, callIs_iff.2 h2, fun _ => yes, fun c => ?_⟩
  simp at c
theorem o6 : SpecOk PA GA 6 s6 := spec_each fun args r h => by
  unfold s6 at h
  split at h
  case h_2 => cases h
  split at h
  case h_2 => cases h
  rename_i l hl
  split at h
  case isFalse => cases h
  rename_i hh
  obtain ⟨rfl, l1, ol, hp⟩ := hh
  injection h with h; subst h
  obtain rfl := unL_inv unP_inv hl
  have hR : CalleeOk PA GA RC := tbl_cons o7 (tbl_cons o10 (tbl_cons o11 (tbl_cons o12 (tbl_cons o15 (tbl_cons o16 (tbl_cons o18 tbl_nil))))))
  exact one_pure mixedA hR itbl_nil (p6 _ _ _ l _ l1 ol hp)
theorem s6_true (op : List UInt8) (param kind : Int) (l : List (List ItI)) (t : Int) (np : iOk param) (_ : iOk kind) (nl : l.length ≤ maxLen ∧ ∀ p ∈ l, okP p) (_ : iOk t) : s6 [.str op, .int .i64 param, .int .i64 kind, .sl 1 (ptsL l) .no, .int .i64 t] = some (.bool true, []) := by
  simp only [s6, show unL unP (ptsL l) = some l from unL_map unP_ok l]
  rw [if_pos ⟨trivial, nl.1, nl.2, np⟩]
end Go.Abs

namespace Go.Abs
open Go.ChangeShapes Go.WideShapes Go.ChangeAt Go.RowKit Go.Deep Go.ChangeMaps
open Go.Proofs Go.Proofs.Ytdajfgkcpflacaa
section
variable {H : Type} {enc : TypeId × Value → H} {P : Program} {W : World}
def ElemR (P : Program) (W : World) (enc : TypeId × Value → H) (e : TypeId) {α : Type} (g : α → AV) (Q : α → DataW H → Prop) : Prop :=
  ∀ n cs x, DataW.trod enc P W 0 (fun _ => true) true n e cs = some x → ∃ a : α, Q a x.1 ∧ ∀ (j : Nat) (c : AV) (u : Value), (g a).cells[j]? = some c → cs[j]? = some u → Rep (oldE W) W c u ∧ u.oneCell' = true
theorem open_slR {t e : TypeId} {sz : Nat} {α : Type} [Inhabited α] {g : α → AV} {Q : α → DataW H → Prop} (ht : P.underlying t = some (.slice e)) (hc : P.cellsOf e = sz) (hsz : 0 < sz) (hg : ∀ a, (g a).cells.length = sz ∧ (g a).closed1 = true) (hel : ElemR P W enc e g Q)
    {v : Value} {d : DataW H} {ps : List MemPlace} (hv : ∃ A len cap, v = .slice A len cap) (h : DataW.Trod enc P W 0 (fun _ => true) true t v d ps) :
    ∃ l : List α, Rep (oldE W) W (.sl sz (l.map g) .no) v ∧ (l = [] ∨ ∃ elems spare, d = .slice elems spare ∧ elems.length = l.length ∧ ∀ (i : Nat) a x, l[i]? = some a → elems[i]? = some x → Q a x) := by
  obtain ⟨a, len, cap, rfl⟩ := hv
  obtain ⟨fuel, h⟩ := h
  rcases open_slice ht h with ⟨hcs, _⟩ | ⟨a', len', cap', m, n, D, Pl, hcs, hb, hl, hmx, hm, hx, hels⟩
  · simp [Value.cells] at hcs
    obtain ⟨rfl, rfl, rfl⟩ := hcs
    exact ⟨[], .sl sz [] .no none 0 (fun _ _ => .bool false) (by simp) (by simp [maxLen]) (.inl rfl) (by simp) (by simp) trivial (by simp) (fun _ _ => rfl), .inl rfl⟩
  · simp [Value.cells] at hcs
    obtain ⟨rfl, rfl, rfl⟩ := hcs
    have hm' : m = cap := by simpa using hm
    have hch : ∀ i, i < len → ∃ x : α × List Value, x.2.length = sz ∧ (∀ j, j < sz → W.cell? (a'.add (i * sz + j)) = x.2[j]?) ∧ Q x.1 (D i) ∧ ∀ (j : Nat) (c : AV) (u : Value), (g x.1).cells[j]? = some c → x.2[j]? = some u → Rep (oldE W) W c u ∧ u.oneCell' = true := fun i hi => by
      obtain ⟨cs, hcs, ht'⟩ := hels i (by omega)
      rw [hc] at hcs
      obtain ⟨_, hlen, hat⟩ := World.cells?_some hcs
      obtain ⟨x, hq, hx⟩ := hel n cs _ ht'
      refine ⟨(x, cs), hlen, fun j hj => ?_, hq, hx⟩
      have := hat j hj
      rw [Go.Deep.add_add] at this
      exact this
    obtain ⟨f, hf⟩ := choose_lt hch
    refine ⟨(List.range len).map fun i => (f i).1, ?_, .inr ?_⟩
    · have hlen : ((List.range len).map fun i => (f i).1).length = len := by simp
      have hln : (((List.range len).map fun i => (f i).1).map g).length = len := by simp
      have hget : ∀ (i : Nat) (e' : AV), (((List.range len).map fun i => (f i).1).map g)[i]? = some e' → i < len ∧ e' = g (f i).1 := fun i e' h => by
        have hi : i < len := by
          have := (List.getElem?_eq_some_iff.1 h).1
          simpa using this
        refine ⟨hi, ?_⟩
        simp [List.getElem?_range hi] at h
        exact h.symm
      let u : Nat → Nat → Value := fun i j => if i < len ∧ j < sz then ((f i).2[j]?).getD (.bool false) else .bool false
      have hu : ∀ i j, i < len → j < sz → (f i).2[j]? = some (u i j) := fun i j hi hj => by
        have h2 : j < (f i).2.length := by rw [(hf i hi).1]; exact hj
        simp only [u, hi, hj, and_self, if_true, List.getElem?_eq_getElem h2, Option.getD_some]
      have key := Rep.sl (E := oldE W) (w := W) sz (((List.range len).map fun i => (f i).1).map g) .no (some a') cap u (by rw [hln]; exact hl) hmx ?_ ?_ ?_ trivial ?_ ?_
      · rw [hln] at key; exact key
      · rcases Nat.eq_zero_or_pos len with h0 | h0
        · left; subst h0; rfl
        · right
          have h1 := (hf 0 h0).2.1 0 hsz
          rw [hu 0 0 h0 hsz] at h1
          have hadd : a'.add (0 * sz + 0) = a' := by unfold Addr.add; simp
          rw [hadd] at h1
          have hp := addr_plain h1
          refine ⟨a'.block, a'.off, by rw [← hp], fun i e' j c hi hj => ?_⟩
          obtain ⟨hlt, rfl⟩ := hget i e' hi
          have hjs : j < sz := by
            have := (List.getElem?_eq_some_iff.1 hj).1
            rw [(hg _).1] at this; exact this
          have h2 := (hf i hlt).2.1 j hjs
          rw [hu i j hlt hjs, hp, addp] at h2
          have e : a'.off + i * sz + j = a'.off + (i * sz + j) := by omega
          refine ⟨cell_lt h1, by rw [e]; exact h2⟩
      · intro e' he
        obtain ⟨x, hx, rfl⟩ := List.mem_map.1 he
        exact (hg x).1
      · intro e' he
        obtain ⟨x, hx, rfl⟩ := List.mem_map.1 he
        exact (hg x).2
      · intro i e' j c hi hj
        obtain ⟨hlt, rfl⟩ := hget i e' hi
        have hjs : j < sz := by
          have := (List.getElem?_eq_some_iff.1 hj).1
          rw [(hg _).1] at this; exact this
        exact ((hf i hlt).2.2.2 j c (u i j) hj (hu i j hlt hjs)).1
      · intro i j
        by_cases hij : i < len ∧ j < sz
        · have hjs : j < (g (f i).1).cells.length := by rw [(hg _).1]; exact hij.2
          exact ((hf i hij.1).2.2.2 j _ (u i j) (List.getElem?_eq_getElem hjs) (hu i j hij.1 hij.2)).2
        · simp only [u, if_neg hij]; rfl
    · have hx1 := congrArg Prod.fst hx
      simp only at hx1
      refine ⟨_, _, hx1, by simp, fun i a x hi hxi => ?_⟩
      have hlt : i < len := by
        have := (List.getElem?_eq_some_iff.1 hi).1
        simpa using this
      simp [List.getElem?_range hlt] at hi hxi
      subst hi; subst hxi
      exact (hf i hlt).2.2.1

/-! cells that read so -/
def CellsAre (W : World) (l : List AV) (cs : List Value) : Prop :=
  l.length = cs.length ∧ ∀ (j : Nat) (c : AV) (u : Value), l[j]? = some c → cs[j]? = some u → Rep (oldE W) W c u ∧ u.oneCell' = true
theorem CellsAre.one {c : AV} {u : Value} (h : Rep (oldE W) W c u) (h1 : u.oneCell' = true) : CellsAre W [c] [u] := ⟨rfl, fun j c' u' hc hu => by
  match j, hc, hu with
  | 0, hc, hu => simp at hc hu; subst hc; subst hu; exact ⟨h, h1⟩⟩
theorem CellsAre.append {l r : List AV} {cs ds : List Value} (h : CellsAre W l cs) (k : CellsAre W r ds) : CellsAre W (l ++ r) (cs ++ ds) := by
  refine ⟨by simp [h.1, k.1], fun j c u hc hu => ?_⟩
  rcases Nat.lt_or_ge j l.length with hj | hj
  · rw [List.getElem?_append_left hj] at hc
    rw [List.getElem?_append_left (by rw [← h.1]; exact hj)] at hu
    exact h.2 j c u hc hu
  · rw [List.getElem?_append_right hj] at hc
    rw [List.getElem?_append_right (by rw [← h.1]; exact hj), ← h.1] at hu
    exact k.2 _ c u hc hu
/-- a struct's cells, field behind field -/
theorem CellsAre.next {l r : List AV} {cs : List Value} {o s p : Nat} (h : CellsAre W l ((cs.drop o).take s)) (hp : p = o + s) (k : CellsAre W r (cs.drop p)) : CellsAre W (l ++ r) (cs.drop o) := by
  subst hp
  have := h.append k
  rwa [← List.drop_drop, List.take_append_drop] at this
theorem CellsAre.last {l : List AV} {cs : List Value} {o s : Nat} (h : CellsAre W l ((cs.drop o).take s)) (hs : cs.length = o + s) : CellsAre W l (cs.drop o) := by
  rwa [List.take_of_length_le (by rw [List.length_drop]; omega)] at h
/-- what is read of a type -/
def ReadsAs (P : Program) (W : World) (enc : TypeId × Value → H) (t : TypeId) {α : Type} (g : α → List AV) (Q : α → Nat → Prop) : Prop :=
  ∀ n cs x, DataW.trod enc P W 0 (fun _ => true) true n t cs = some x → ∃ a : α, Q a (Rows.uptoBulk x.1) ∧ CellsAre W (g a) cs
theorem reads_str {t : TypeId} (ht : P.underlying t = some .string) : ReadsAs P W enc t (fun s : List UInt8 => [.str s]) (fun s n => s.length ≤ n) := by
  intro n cs x h
  obtain ⟨s, rfl, rfl, _⟩ := DataW.trod_string ht h
  exact ⟨s.data.toList, by simp [Rows.uptoBulk], .one (mk_str s) rfl⟩
theorem reads_int {t : TypeId} (ht : P.underlying t = some (.int .i64)) : ReadsAs P W enc t (fun n : Int => [.int .i64 n]) (fun n _ => -9223372036854775808 ≤ n ∧ n ≤ 9223372036854775807) := by
  intro n cs x h
  obtain ⟨k, rfl, _, hw⟩ := DataW.trod_int ht h
  have := int_rng hw
  exact ⟨k, ⟨this.1, by omega⟩, .one (.int _ _) rfl⟩
namespace Bulks
theorem one_le (d : DataW H) : 1 ≤ Rows.uptoBulk d := by
  cases d with
  | lit l => cases l <;> simp [Rows.uptoBulk]
  | nil => simp [Rows.uptoBulk]
  | ptr d => simp [Rows.uptoBulk]
  | slice elems spare => simp [Rows.uptoBulk]
  | agg parts => simp [Rows.uptoBulk]
  | iface t d => simp [Rows.uptoBulk]
  | map entries => simp [Rows.uptoBulk]
  | held h => simp [Rows.uptoBulk]
theorem part_le {d : DataW H} {l : List (DataW H)} (h : d ∈ l) : Rows.uptoBulk d ≤ Rows.uptoBulkAll l := by
  induction l with
  | nil => cases h
  | cons x r ih =>
    simp only [Rows.uptoBulkAll]
    cases List.mem_cons.1 h with
    | inl e => subst e; omega
    | inr e => have := ih e; omega
theorem length_le (l : List (DataW H)) : l.length ≤ Rows.uptoBulkAll l := by
  induction l with
  | nil => simp [Rows.uptoBulkAll]
  | cons x r ih => have := one_le x; simp only [Rows.uptoBulkAll, List.length_cons]; omega
theorem bound {l : List (DataW H)} (hk : Rows.uptoSmall H l = true) : Rows.uptoBulkAll l ≤ 1048576 := by
  simpa [Rows.uptoSmall] using hk
theorem field_le {xs : List (DataW H × List MemPlace)} {i : Nat} {y : DataW H × List MemPlace} (h : xs[i]? = some y) : Rows.uptoBulk y.1 ≤ Rows.uptoBulk (DataW.agg (xs.map (·.1))) := by
  have := part_le (List.mem_map_of_mem (f := fun y : DataW H × List MemPlace => y.1) (List.mem_of_getElem? h))
  simp only [Rows.uptoBulk]
  omega
end Bulks
theorem reads_slice {t e : TypeId} {sz : Nat} {α : Type} [Inhabited α] {g : α → AV} {Q : α → Nat → Prop} (ht : P.underlying t = some (.slice e)) (hc : P.cellsOf e = sz) (hsz : 0 < sz) (hg : ∀ a, (g a).cells.length = sz ∧ (g a).closed1 = true) (hel : ReadsAs P W enc e (fun a => (g a).cells) Q)
    (hQ : ∀ a n m, Q a n → n ≤ m → Q a m) : ReadsAs P W enc t (fun l : List α => [.sl sz (l.map g) .no]) (fun l n => l.length ≤ n ∧ ∀ a ∈ l, Q a n) := by
  intro n cs x h
  have hs : ∃ A len cap, cs = [.slice A len cap] := by
    rcases open_slice ht h with ⟨hcs, _⟩ | ⟨a', len', cap', m, n, D, Pl, hcs, _⟩
    · exact ⟨_, _, _, hcs⟩
    · exact ⟨_, _, _, hcs⟩
  obtain ⟨A, len, cap, rfl⟩ := hs
  have hel' : ElemR P W enc e g (fun a d => Q a (Rows.uptoBulk d)) := fun n cs x h => by
    obtain ⟨a, h1, h2⟩ := hel n cs x h
    exact ⟨a, h1, h2.2⟩
  obtain ⟨l, hl, hb⟩ := open_slR ht hc hsz hg hel' ⟨A, len, cap, rfl⟩ (d := x.1) (ps := x.2) ⟨n, by simpa [Value.cells] using h⟩
  refine ⟨l, ?_, .one hl rfl⟩
  rcases hb with rfl | ⟨elems, spare, he, hlen, hq⟩
  · exact ⟨Nat.zero_le _, fun a ha => by cases ha⟩
  · rw [he]
    have hE : Rows.uptoBulk (DataW.slice elems spare) = Rows.uptoBulkAll elems + Rows.uptoBulkAll spare + 1 := by simp only [Rows.uptoBulk]
    rw [hE]
    refine ⟨by have := Bulks.length_le elems; omega, fun a ha => ?_⟩
    obtain ⟨i, hi⟩ := List.mem_iff_getElem?.1 ha
    have hlt : i < elems.length := by rw [hlen]; exact (List.getElem?_eq_some_iff.1 hi).1
    have hx := List.getElem?_eq_getElem hlt
    refine hQ a _ _ (hq i a _ hi hx) ?_
    have := Bulks.part_le (List.mem_of_getElem? hx)
    omega
/-! cells of any type -/
end
end Go.Abs

namespace Go.Abs
open Go.ChangeShapes Go.WideShapes Go.ChangeAt Go.RowKit Go.Deep Go.ChangeMaps
open Go.Proofs Go.Proofs.Ytdajfgkcpflacaa
section
variable {H : Type} {enc : TypeId × Value → H} {P : Program} {W : World}
theorem fieldR {t : TypeId} {α : Type} {g : α → List AV} {Q : α → Nat → Prop} (hr : ReadsAs P W enc t g Q) (hQ : ∀ a n m, Q a n → n ≤ m → Q a m) {fs : Array Field} {xs : List (DataW H × List MemPlace)} {n : Nat} {cs : List Value} {x : DataW H × List MemPlace}
    (hx : x = (.agg (xs.map (·.1)), xs.flatMap (·.2))) (hxl : xs.length = fs.size)
    (hf : ∀ (i : Nat) (f : Field), fs[i]? = some f → DataW.trod enc P W 0 (fun _ => true) true n f.type ((cs.drop f.offset).take (P.cellsOf f.type)) = xs[i]?)
    (i : Nat) {f : Field} (hi : fs[i]? = some f) (ht : f.type = t) {o s : Nat} (ho : f.offset = o) (hs : P.cellsOf t = s) : ∃ a, Q a (Rows.uptoBulk x.1) ∧ CellsAre W (g a) ((cs.drop o).take s) := by
  have h := hf i f hi
  rw [ht, ho, hs] at h
  have hil : i < xs.length := by rw [hxl]; exact (Array.getElem?_eq_some_iff.1 hi).1
  have hg := List.getElem?_eq_getElem hil
  rw [hg] at h
  obtain ⟨a, h1, h2⟩ := hr n _ _ h
  refine ⟨a, hQ a _ _ h1 ?_, h2⟩
  rw [hx]
  exact Bulks.field_le hg
theorem ReadsAs.map {t : TypeId} {α β : Type} {g : α → List AV} {g' : β → List AV} {Q : α → Nat → Prop} {Q' : β → Nat → Prop} (h : ReadsAs P W enc t g Q) (f : α → β) (hg : ∀ a, g a = g' (f a)) (hQ : ∀ a n, Q a n → Q' (f a) n) : ReadsAs P W enc t g' Q' := fun n cs x hx => by
  obtain ⟨a, h1, h2⟩ := h n cs x hx
  exact ⟨f a, hQ a _ h1, by rw [← hg]; exact h2⟩
end
section
variable {H : Type} {enc : TypeId × Value → H} {W : World}
theorem cz3 : PA.cellsOf 3 = 1 := by kernel_rfl
theorem cz9 : PA.cellsOf 9 = 1 := by kernel_rfl
theorem cz25 : PA.cellsOf 25 = 1 := by kernel_rfl
theorem cz29 : PA.cellsOf 29 = 3 := by kernel_rfl
theorem cz31 : PA.cellsOf 31 = 2 := by kernel_rfl
theorem cz33 : PA.cellsOf 33 = 6 := by kernel_rfl
theorem st29 : ∃ f0 f1 f2 : Field, PA.underlying 29 = some (.struct #[f0, f1, f2]) ∧ (f0.type = 3 ∧ f0.offset = 0) ∧ (f1.type = 3 ∧ f1.offset = 1) ∧ (f2.type = 9 ∧ f2.offset = 2) := ⟨_, _, _, Try.underlying29, ⟨rfl, rfl⟩, ⟨rfl, rfl⟩, ⟨rfl, rfl⟩⟩
theorem st31 : ∃ f0 f1 : Field, PA.underlying 31 = some (.struct #[f0, f1]) ∧ (f0.type = 9 ∧ f0.offset = 0) ∧ (f1.type = 3 ∧ f1.offset = 1) := ⟨_, _, Try.underlying31, ⟨rfl, rfl⟩, ⟨rfl, rfl⟩⟩
theorem st33 : ∃ f0 f1 f2 : Field, PA.underlying 33 = some (.struct #[f0, f1, f2]) ∧ (f0.type = 29 ∧ f0.offset = 0) ∧ (f1.type = 31 ∧ f1.offset = 3) ∧ (f2.type = 3 ∧ f2.offset = 5) := ⟨_, _, _, Try.underlying33, ⟨rfl, rfl⟩, ⟨rfl, rfl⟩, ⟨rfl, rfl⟩⟩
def rngI (n : Int) : Prop := -9223372036854775808 ≤ n ∧ n ≤ 9223372036854775807
theorem rng_ok {n : Int} (h : rngI n) : iOk n := by unfold rngI at h; unfold iOk; omega
theorem rStr : ReadsAs PA W enc 9 (fun s : List UInt8 => [.str s]) (fun _ _ => True) := fun n cs x h => by
  obtain ⟨a, _, h2⟩ := reads_str Try.underlying9 n cs x h
  exact ⟨a, trivial, h2⟩
theorem rInt : ReadsAs PA W enc 3 (fun n : Int => [.int .i64 n]) (fun n _ => rngI n) := reads_int Try.underlying3
theorem rVal : ReadsAs PA W enc 29 (fun v : Int × Int × List UInt8 => [.int .i64 v.1, .int .i64 v.2.1, .str v.2.2]) (fun v _ => rngI v.1 ∧ rngI v.2.1) := by
  intro n cs x h
  obtain ⟨f0, f1, f2, hu, ⟨t0, o0⟩, ⟨t1, o1⟩, ⟨t2, o2⟩⟩ := st29
  obtain ⟨xs, m, _, hx, hlen, hxl, hf⟩ := DataW.trod_struct hu h
  obtain ⟨a0, q0, c0⟩ := fieldR rInt (fun _ _ _ h _ => h) hx hxl hf 0 rfl t0 o0 cz3
  obtain ⟨a1, q1, c1⟩ := fieldR rInt (fun _ _ _ h _ => h) hx hxl hf 1 rfl t1 o1 cz3
  obtain ⟨a2, q2, c2⟩ := fieldR rStr (fun _ _ _ h _ => h) hx hxl hf 2 rfl t2 o2 cz9
  exact ⟨(a0, a1, a2), ⟨q0, q1⟩, c0.next rfl (c1.next rfl (c2.last (by rw [hlen]; exact cz29)))⟩
theorem rMark : ReadsAs PA W enc 31 (fun p : List UInt8 × Int => [.str p.1, .int .i64 p.2]) (fun p _ => rngI p.2) := by
  intro n cs x h
  obtain ⟨f0, f1, hu, ⟨t0, o0⟩, ⟨t1, o1⟩⟩ := st31
  obtain ⟨xs, m, _, hx, hlen, hxl, hf⟩ := DataW.trod_struct hu h
  obtain ⟨a0, q0, c0⟩ := fieldR rStr (fun _ _ _ h _ => h) hx hxl hf 0 rfl t0 o0 cz9
  obtain ⟨a1, q1, c1⟩ := fieldR rInt (fun _ _ _ h _ => h) hx hxl hf 1 rfl t1 o1 cz3
  exact ⟨(a0, a1), q1, c0.next rfl (c1.last (by rw [hlen]; exact cz31))⟩
def itQ (x : ItI) (_ : Nat) : Prop := rngI x.k ∧ rngI x.n ∧ rngI x.q ∧ rngI x.c
theorem rItem : ReadsAs PA W enc 33 (fun x : ItI => (itA x).cells) itQ := by
  intro n cs x h
  obtain ⟨f0, f1, f2, hu, ⟨t0, o0⟩, ⟨t1, o1⟩, ⟨t2, o2⟩⟩ := st33
  obtain ⟨xs, m, _, hx, hlen, hxl, hf⟩ := DataW.trod_struct hu h
  obtain ⟨a0, q0, c0⟩ := fieldR rVal (fun _ _ _ h _ => h) hx hxl hf 0 rfl t0 o0 cz29
  obtain ⟨a1, q1, c1⟩ := fieldR rMark (fun _ _ _ h _ => h) hx hxl hf 1 rfl t1 o1 cz31
  obtain ⟨a2, q2, c2⟩ := fieldR rInt (fun _ _ _ h _ => h) hx hxl hf 2 rfl t2 o2 cz3
  exact ⟨⟨a0.1, a0.2.1, a0.2.2, a1.1, a1.2, a2⟩, ⟨q0.1, q0.2, q1, q2⟩, c0.next rfl (c1.next rfl (c2.last (by rw [hlen]; exact cz33)))⟩
instance : Inhabited ItI := ⟨⟨0, 0, [], [], 0, 0⟩⟩
def itsQ (l : List ItI) : Prop := l.length ≤ maxLen ∧ ∀ x ∈ l, itQ x 0
theorem rep_len2 {E : Env} {w : World} {sz : Nat} {es : List AV} {o : Own} {v : Value} (h : Rep E w (.sl sz es o) v) : es.length ≤ maxLen := by
  cases h with
  | sl _ _ _ A cap u hcap hmax => exact Nat.le_trans hcap hmax
theorem cells_len {sz : Nat} {es : List AV} {o : Own} {cs : List Value} (h : CellsAre W [.sl sz es o] cs) : es.length ≤ maxLen := by
  match cs, h with
  | [u], h => exact rep_len2 (h.2 0 _ u rfl rfl).1
  | [], h => cases h.1
theorem rItems : ReadsAs PA W enc 25 (fun l : List ItI => [.sl 6 (itsL l) .no]) (fun l _ => itsQ l) := fun n cs x h => by
  obtain ⟨l, h1, h2⟩ := reads_slice (g := itA) Try.underlying25 cz33 (by omega) (fun _ => ⟨rfl, rfl⟩) rItem (fun _ _ _ h _ => h) n cs x h
  have hl := cells_len h2
  rw [List.length_map] at hl
  exact ⟨l, ⟨hl, h1.2⟩, h2⟩
theorem rParts : ReadsAs PA W enc 48 (fun l : List (List ItI) => [.sl 1 (l.map fun p => .sl 6 (itsL p) .no) .no]) (fun l _ => l.length ≤ maxLen ∧ ∀ p ∈ l, itsQ p) := fun n cs x h => by
  obtain ⟨l, h1, h2⟩ := reads_slice (g := fun p : List ItI => .sl 6 (itsL p) .no) Try.underlying48 cz25 (by omega) (fun _ => ⟨rfl, rfl⟩) rItems (fun _ _ _ h _ => h) n cs x h
  have hl := cells_len h2
  rw [List.length_map] at hl
  exact ⟨l, ⟨hl, h1.2⟩, h2⟩
/-! arguments -/
/-- an argument of one cell -/
theorem open_one {t : TypeId} {α : Type} {g : α → AV} {Q : α → Nat → Prop} (hr : ReadsAs PA W enc t (fun a => [g a]) Q) {v : Value} {d : DataW H} {ps : List MemPlace} (h1 : ∃ u, v.cells = #[u] ∧ v = u) (h : DataW.Trod enc PA W 0 (fun _ => true) true t v d ps) : ∃ a, Rep (oldE W) W (g a) v ∧ Q a (Rows.uptoBulk d) := by
  obtain ⟨u, hu, rfl⟩ := h1
  obtain ⟨fuel, h⟩ := h
  rw [hu] at h
  obtain ⟨a, q, c⟩ := hr fuel _ _ h
  exact ⟨a, (c.2 0 _ _ rfl rfl).1, q⟩
end
end Go.Abs

namespace Go.Abs
open Go.Proofs
theorem ptsQ_ok {l : List (List ItI)} (h : l.length ≤ maxLen ∧ ∀ p ∈ l, itsQ p) : l.length ≤ maxLen ∧ ∀ p ∈ l, okP p :=
  ⟨h.1, fun p hp => ⟨(h.2 p hp).1, fun x hx => by
    obtain ⟨h1, h2, _, h4⟩ := (h.2 p hp).2 x hx
    exact ⟨⟨rng_ok h2, rng_ok h4⟩, rng_ok h1⟩⟩⟩
end Go.Abs

namespace Go.Abs
open Go.ChangeShapes Go.WideShapes Go.ChangeAt Go.RowKit Go.Deep Go.ChangeMaps
open Go.Proofs Go.Proofs.Ytdajfgkcpflacaa
section
variable {W : World}
theorem globI : GlobOk GA (oldE W) W := globA (fun g e hg => by cases hg) fun g e hg => by cases hg
end
theorem one_slice {P : Program} {W : World} {t e : TypeId} {v : Value} {b : Nat} (ht : P.underlying t = some (.slice e)) (h : Value.okWide P W .any b t v) : ∃ u, v.cells = #[u] ∧ v = u := by
  obtain ⟨A, n, c, rfl⟩ := okWide_slice ht h
  exact ⟨_, rfl, rfl⟩
theorem one_int {P : Program} {W : World} {t : TypeId} {k : IntKind} {v : Value} {b : Nat} (ht : P.underlying t = some (.int k)) (h : Value.okWide P W .any b t v) : ∃ u, v.cells = #[u] ∧ v = u := by
  obtain ⟨n, rfl⟩ := okWide_int ht h
  exact ⟨_, rfl, rfl⟩
theorem one_str {P : Program} {W : World} {t : TypeId} {v : Value} {b : Nat} (ht : P.underlying t = some .string) (h : Value.okWide P W .any b t v) : ∃ u, v.cells = #[u] ∧ v = u := by
  obtain ⟨n, rfl⟩ := okWide_string ht h
  exact ⟨_, rfl, rfl⟩
theorem witness_row_shaped {H : Type} {enc : TypeId × Value → H} {C : Checked} {os : Os} {f : FuncId} {fn : Func} {s : OpenSpec} {conds : List PathCond} {apart : Bool} {laid : List (String × DataW Unit)} (w0 : World) (args : Array Value) (hos : w0.os = os)
    (hsh : (w0.forCall (fun _ _ => 0) ⟨#[], args, []⟩).Shaped C.prog)
    (hok : Input.okWideB C.prog (w0.forCall (fun _ _ => 0) ⟨#[], args, []⟩) f ⟨#[], args, []⟩ = true)
    (hrow : s.preRow enc C.prog fn conds apart laid (w0.forCall (fun _ _ => 0) ⟨#[], args, []⟩).memory args) :
    ∃ (w : World) (tape : Tape) (i : Input), w.os = os ∧ (w.forCall tape i).Shaped C.prog ∧ i.vars = [] ∧ Input.okWide C.prog (w.forCall tape i) .any w.heap.size f i ∧
      s.preRow enc C.prog fn conds apart laid (w.forCall tape i).memory i.args ∧ ({} : Assume).holds C.prog (lone (Frame.enter C.prog f i.args .normal) [] (w.forCall tape i)) :=
  ⟨w0, fun _ _ => 0, ⟨#[], args, []⟩, hos, hsh, (Input.okWide_of_okWideB (base := 0) hok).1, (Input.okWide_of_okWideB hok).2, hrow, by
    simp only [Assume.holds]
    exact ⟨by simp, by simp, fun _ => Modest.zero, by simp, by simp⟩⟩

end Go.Abs
