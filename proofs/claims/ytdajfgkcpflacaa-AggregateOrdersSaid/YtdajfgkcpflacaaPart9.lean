/- Own texts, part 9. -/
import Derived.Test.YtdajfgkcpflacaaPart8
import Derived.Test.YtdajfgkcpflacaaPart3
import Derived.Test.YtdajfgkcpflacaaRows
import Derived.Test.YtdajfgkcpflacaaPart6
import Derived.LaidLaws
import Derived.Lay
import Derived.Shelf.Lay

namespace Go.Abs
open Go.Proofs Go.Proofs.K17 Go.RowKit
theorem w4 (op : List UInt8) (l : List ItI) (t : Int) (r : AV) : (pureW PA GA XL RO (itbl []) (a4 op l t) [] 4 [.str op, .sl 6 (itsL l) .no, .int .i64 t] (r, [])) =
(CallIs (some (AV.bool true, [])) (AV.bool true) [] ∧
  (true = true →
      ∃ (b : Bool),
        CallIs (some (AV.bool (famO op).isSome, [])) (AV.bool b) [] ∧
 (b = true →
 ∃ (b : Bool),
 CallIs (RO 11 [AV.sl 6 (itsL l) Own.no]) (AV.bool b) [] ∧
 (b = true →
 (((↑(itsL l).length : Int) == (0 : Int)) = true → RetIs (AV.bool true) [] (r, [])) ∧
 (((↑(itsL l).length : Int) == (0 : Int)) = false →
 (decide (t < (0 : Int)) = true → RetIs (AV.bool true) [] (r, [])) ∧
 (decide (t < (0 : Int)) = false →
 (decide (t ≥ (↑(itsL l).length : Int)) = true → RetIs (AV.bool true) [] (r, [])) ∧
 (decide (t ≥ (↑(itsL l).length : Int)) = false →
 ((∃ (y : Nat),
 ValsAre [AV.str op, AV.sl 6 (itsL l) Own.no, AV.int IntKind.i64 t, AV.int IntKind.i64 0]
 [AV.str op, AV.sl 6 (itsL l) Own.no, AV.int IntKind.i64 t, AV.int IntKind.i64 (↑y : Int)] ∧
 StIs { boxes := [], live := [] } { boxes := [], live := [] } ∧
 (y ≤ l.length ∧ (List.take y l).all bndI = true) ∧ True) ∧
 ∀ (x : Nat),
 x ≤ l.length ∧ (List.take x l).all bndI = true →
 (decide ((↑x : Int) < (↑(itsL l).length : Int)) = true →
 ((0 : Int) ≤ (↑x : Int) ∧ (↑x : Int) < (↑(itsL l).length : Int)) ∧
 ∃ (n : Int),
 takeAt PA 3 (itsL l) (↑x : Int).toNat 5 = some (AV.int IntKind.i64 n) ∧
 (decide (n < (-1099511627776 : Int)) = true → RetIs (AV.bool true) [] (r, [])) ∧
 (decide (n < (-1099511627776 : Int)) = false →
 ((0 : Int) ≤ (↑x : Int) ∧ (↑x : Int) < (↑(itsL l).length : Int)) ∧
 ∃ (n : Int),
 takeAt PA 3 (itsL l) (↑x : Int).toNat 5 = some (AV.int IntKind.i64 n) ∧
 (decide (n > (1099511627776 : Int)) = true → RetIs (AV.bool true) [] (r, [])) ∧
 (decide (n > (1099511627776 : Int)) = false →
 ∃ (y : Nat),
 ValsAre
 [AV.str op, AV.sl 6 (itsL l) Own.no, AV.int IntKind.i64 t,
 AV.int IntKind.i64 (IntKind.i64.wrap ((↑x : Int) + (1 : Int)))]
 [AV.str op, AV.sl 6 (itsL l) Own.no, AV.int IntKind.i64 t,
 AV.int IntKind.i64 (↑y : Int)] ∧
 StIs { boxes := [], live := [] } { boxes := [], live := [] } ∧
 (y ≤ l.length ∧ (List.take y l).all bndI = true) ∧ l.length - y < l.length - x))) ∧
 (decide ((↑x : Int) < (↑(itsL l).length : Int)) = false →
 ∃ (_y : Unit),
 ValsAre [AV.str op, AV.sl 6 (itsL l) Own.no, AV.int IntKind.i64 t]
 [AV.str op, AV.sl 6 (itsL l) Own.no, AV.int IntKind.i64 t] ∧
 StIs { boxes := [], live := [] } { boxes := [], live := [] } ∧ l.all bndI = true ∧ True)) ∧
 ∀ (_x : Unit),
 l.all bndI = true →
 True →
 ∃ (n : Int),
 ∃ (n_1 : Int),
 ∃ (n_2 : Int),
 ∃ (es : List AV),
 ∃ (es_1 : List AV),
 CallIs (RO 12 [AV.str op, AV.sl 6 (itsL l) Own.no])
 (AV.agg
 [AV.int IntKind.i64 n, AV.int IntKind.i64 n_1, AV.int IntKind.u64 n_2, AV.sl 6 es Own.no,
 AV.sl 2 es_1 Own.no])
 [] ∧
 ((0 : Int) ≤ t ∧
 (t.toNat ≤ (itsL l).length ∧ (itsL l).length ≤ (itsL l).length) ∧
 ((6 : Nat) = (6 : Nat) ∨ itsL l = []) ∧
 ((6 : Nat) = (6 : Nat) ∨ ([] : List AV) = []) ∧
 ((0 : Nat) + (List.drop t.toNat (List.take (itsL l).length (itsL l))).length) * (65 : Nat) ≤
 (70368744177664 : Nat) ∧
 (List.drop t.toNat (List.take (itsL l).length (itsL l)) = [] →
 (0 : Int) ≤ t ∧
 ((0 : Nat) ≤ t.toNat ∧ t.toNat ≤ (itsL l).length) ∧
 ((6 : Nat) = (6 : Nat) ∨ itsL l = []) ∧
 ((6 : Nat) = (6 : Nat) ∨ ([] : List AV) = []) ∧
 ((0 : Nat) + (List.drop 0 (List.take t.toNat (itsL l))).length) *
 (65 : Nat) ≤
 (70368744177664 : Nat) ∧
 (List.drop 0 (List.take t.toNat (itsL l)) = [] →
 ∃ (_y : Unit),
 ValsAre
 [AV.str op, AV.sl 6 (itsL l) Own.no, AV.int IntKind.i64 t,
 AV.ptr 0 0, AV.sl 6 [] Own.full]
 [AV.str op, AV.sl 6 (itsL l) Own.no, AV.int IntKind.i64 t,
 AV.ptr 0 0,
 AV.sl 6 (itsL (turnP l t)) Own.no] ∧
 StIs
 { boxes := [some [AV.int IntKind.i64 n, AV.int IntKind.i64 n_1, AV.int IntKind.u64 n_2, AV.sl 6 es Own.no, AV.sl 2 es_1 Own.no]], live := [] }
 { boxes := [some (stC (ofP op l))], live := [] } ∧
 True ∧ True) ∧
 (List.drop 0 (List.take t.toNat (itsL l)) ≠ [] →
 ∃ (_y : Unit),
 ValsAre
 [AV.str op, AV.sl 6 (itsL l) Own.no, AV.int IntKind.i64 t,
 AV.ptr 0 0,
 AV.sl 6
 ([] ++ List.drop 0 (List.take t.toNat (itsL l))) Own.no]
 [AV.str op, AV.sl 6 (itsL l) Own.no, AV.int IntKind.i64 t,
 AV.ptr 0 0,
 AV.sl 6 (itsL (turnP l t)) Own.no] ∧
 StIs
 { boxes := [some [AV.int IntKind.i64 n, AV.int IntKind.i64 n_1, AV.int IntKind.u64 n_2, AV.sl 6 es Own.no, AV.sl 2 es_1 Own.no]], live := [] }
 { boxes := [some (stC (ofP op l))], live := [] } ∧
 True ∧ True)) ∧
 (List.drop t.toNat (List.take (itsL l).length (itsL l)) ≠ [] →
 (0 : Int) ≤ t ∧
 ((0 : Nat) ≤ t.toNat ∧ t.toNat ≤ (itsL l).length) ∧
 ((6 : Nat) = (6 : Nat) ∨ itsL l = []) ∧
 ((6 : Nat) = (6 : Nat) ∨
 [] ++ List.drop t.toNat (List.take (itsL l).length (itsL l)) = []) ∧
 (([] ++ List.drop t.toNat (List.take (itsL l).length (itsL l))).length +
 (List.drop 0 (List.take t.toNat (itsL l))).length) *
 (65 : Nat) ≤
 (70368744177664 : Nat) ∧
 (0 : Nat) + (List.drop t.toNat (List.take (itsL l).length (itsL l))).length =
 ([] ++ List.drop t.toNat (List.take (itsL l).length (itsL l))).length ∧
 ∃ (_y : Unit),
 ValsAre
 [AV.str op, AV.sl 6 (itsL l) Own.no, AV.int IntKind.i64 t,
 AV.ptr 0 0,
 AV.sl 6
 ([] ++ List.drop t.toNat (List.take (itsL l).length (itsL l)) ++
 List.drop 0 (List.take t.toNat (itsL l)))
 Own.no]
 [AV.str op, AV.sl 6 (itsL l) Own.no, AV.int IntKind.i64 t,
 AV.ptr 0 0,
 AV.sl 6 (itsL (turnP l t)) Own.no] ∧
 StIs
 { boxes := [some [AV.int IntKind.i64 n, AV.int IntKind.i64 n_1, AV.int IntKind.u64 n_2, AV.sl 6 es Own.no, AV.sl 2 es_1 Own.no]], live := [] }
 { boxes := [some (stC (ofP op l))], live := [] } ∧
 True ∧ True)) ∧
 ∀ (_x : Unit),
 True →
 True →
 ((∃ (y : Nat),
 ValsAre
 [AV.str op, AV.sl 6 (itsL l) Own.no, AV.int IntKind.i64 t,
 AV.ptr 0 0, AV.sl 6 (itsL (turnP l t)) Own.no,
 AV.sl 6 [] (Own.tok (0 : Nat)),
 AV.int IntKind.i64 (IntKind.i64.wrap ((↑(itsL l).length : Int) - (1 : Int)))]
 [AV.str op, AV.sl 6 (itsL l) Own.no, AV.int IntKind.i64 t,
 AV.ptr 0 0, AV.sl 6 (itsL (turnP l t)) Own.no,
 AV.sl 6 (itsL (List.take y l.reverse)) (Own.tok 0),
 AV.int IntKind.i64 ((↑l.length : Int) - (1 : Int) - (↑y : Int))] ∧
 StIs
 { boxes := [some (stC (ofP op l))], live := [((0 : Nat), (33 : Nat))] }
 { boxes := [some (stC (ofP op l))], live := [(y, (33 : Nat))] } ∧
 y ≤ l.length ∧ True) ∧
 ∀ (x : Nat),
 x ≤ l.length →
 (decide ((↑l.length : Int) - (1 : Int) - (↑x : Int) ≥ (0 : Int)) = true →
 ((0 : Int) ≤ (↑l.length : Int) - (1 : Int) - (↑x : Int) ∧
 (↑l.length : Int) - (1 : Int) - (↑x : Int) < (↑(itsL l).length : Int)) ∧
 ∃ (n : Int),
 ∃ (n_3 : Int),
 ∃ (s : List UInt8),
 ∃ (s_1 : List UInt8),
 ∃ (n_4 : Int),
 ∃ (n_5 : Int),
 takeAt PA 33 (itsL l)
 ((↑l.length : Int) - (1 : Int) - (↑x : Int)).toNat 0 =
 some
 (AV.agg
 [AV.int IntKind.i64 n, AV.int IntKind.i64 n_3, AV.str s,
 AV.str s_1, AV.int IntKind.i64 n_4, AV.int IntKind.i64 n_5]) ∧
 ((6 : Nat) = (6 : Nat) ∨ itsL (List.take x l.reverse) = []) ∧
 ((itsL (List.take x l.reverse)).length + (1 : Nat)) * (65 : Nat) ≤
 (70368744177664 : Nat) ∧
 x = (itsL (List.take x l.reverse)).length ∧
 ∃ (y : Nat),
 ValsAre
 [AV.str op, AV.sl 6 (itsL l) Own.no,
 AV.int IntKind.i64 t, AV.ptr 0 0,
 AV.sl 6 (itsL (turnP l t)) Own.no,
 AV.sl 6
 (itsL (List.take x l.reverse) ++
 [AV.agg
 [AV.int IntKind.i64 n, AV.int IntKind.i64 n_3,
 AV.str s, AV.str s_1, AV.int IntKind.i64 n_4,
 AV.int IntKind.i64 n_5]])
 (Own.tok 0),
 AV.int IntKind.i64
 (IntKind.i64.wrap
 ((↑l.length : Int) - (1 : Int) - (↑x : Int) -
 (1 : Int)))]
 [AV.str op, AV.sl 6 (itsL l) Own.no,
 AV.int IntKind.i64 t, AV.ptr 0 0,
 AV.sl 6 (itsL (turnP l t)) Own.no,
 AV.sl 6 (itsL (List.take y l.reverse))
 (Own.tok 0),
 AV.int IntKind.i64
 ((↑l.length : Int) - (1 : Int) - (↑y : Int))] ∧
 StIs
 { boxes := [some (stC (ofP op l))], live := [((itsL (List.take x l.reverse)).length + (1 : Nat), (33 : Nat))] }
 { boxes := [some (stC (ofP op l))], live := [(y, (33 : Nat))] } ∧
 y ≤ l.length ∧ l.length - y < l.length - x) ∧
 (decide ((↑l.length : Int) - (1 : Int) - (↑x : Int) ≥ (0 : Int)) = false →
 ∃ (_y : Unit),
 ValsAre
 [AV.str op, AV.sl 6 (itsL l) Own.no, AV.int IntKind.i64 t,
 AV.ptr 0 0, AV.sl 6 (itsL (turnP l t)) Own.no,
 AV.sl 6 (itsL (List.take x l.reverse)) Own.no]
 [AV.str op, AV.sl 6 (itsL l) Own.no, AV.int IntKind.i64 t,
 AV.ptr 0 0, AV.sl 6 (itsL (turnP l t)) Own.no,
 AV.sl 6 (itsL l.reverse) Own.no] ∧
 StIs
 { boxes := [some (stC (ofP op l))], live := [] }
 { boxes := [some (stC (ofP op l))], live := [] } ∧
 True ∧ True)) ∧
 ∀ (_x : Unit),
 True →
 True →
 (∃ (n : Int),
 ∃ (n_3 : Int),
 ∃ (n_4 : Int),
 ∃ (es : List AV),
 ∃ (es_2 : List AV),
 CallIs
 (RO 12 [AV.str op, AV.sl 6 (itsL (turnP l t)) Own.no])
 (AV.agg
 [AV.int IntKind.i64 n, AV.int IntKind.i64 n_3, AV.int IntKind.u64 n_4,
 AV.sl 6 es Own.no, AV.sl 2 es_2 Own.no])
 [] ∧
 ∃ (b : Bool),
 CallIs
 (RO 13
 [AV.agg (stC (ofP op l)),
 AV.agg
 [AV.int IntKind.i64 n, AV.int IntKind.i64 n_3,
 AV.int IntKind.u64 n_4, AV.sl 6 es Own.no,
 AV.sl 2 es_2 Own.no]])
 (AV.bool b) [] ∧
 (b = true →
 ∃ (n : Int),
 ∃ (n_5 : Int),
 ∃ (n_6 : Int),
 ∃ (es : List AV),
 ∃ (es_3 : List AV),
 CallIs
 (RO 12
 [AV.str op,
 AV.sl 6 (itsL l.reverse) Own.no])
 (AV.agg
 [AV.int IntKind.i64 n, AV.int IntKind.i64 n_5,
 AV.int IntKind.u64 n_6,
 AV.sl 6 es Own.no,
 AV.sl 2 es_3 Own.no])
 [] ∧
 ∃ (b : Bool),
 CallIs
 (RO 13
 [AV.agg (stC (ofP op l)),
 AV.agg
 [AV.int IntKind.i64 n,
 AV.int IntKind.i64 n_5,
 AV.int IntKind.u64 n_6,
 AV.sl 6 es Own.no,
 AV.sl 2 es_3 Own.no]])
 (AV.bool b) [] ∧
 (b = true →
 ∃ (_y : Unit),
 ValsAre
 [AV.str op,
 AV.sl 6 (itsL l) Own.no,
 AV.int IntKind.i64 t,
 AV.ptr 0 0]
 [AV.str op,
 AV.sl 6 (itsL l) Own.no,
 AV.int IntKind.i64 t,
 AV.ptr 0 0] ∧
 StIs
 { boxes := [some (stC (ofP op l))], live := [] }
 { boxes := [some (stC (ofP op l))], live := [] } ∧
 True ∧ True) ∧
 (b = false → RetIs (AV.bool false) [] (r, []))) ∧
 (b = false → RetIs (AV.bool false) [] (r, []))) ∧
 ∀ (_x : Unit),
 True →
 True →
 (∃ (y : Nat),
 ValsAre
 [AV.str op, AV.sl 6 (itsL l) Own.no, AV.int IntKind.i64 t,
 AV.ptr 0 0,
 AV.int IntKind.i64
 (IntKind.i64.wrap ((↑(itsL l).length : Int) - (1 : Int)))]
 [AV.str op, AV.sl 6 (itsL l) Own.no, AV.int IntKind.i64 t,
 AV.ptr 0 0,
 AV.int IntKind.i64 ((↑y : Int) - (1 : Int))] ∧
 StIs
 { boxes := [some (stC (ofP op l))], live := [] }
 { boxes := [some (stC (ofP op (List.take y l)))], live := [] } ∧
 (t ≤ (↑y : Int) ∧ y ≤ l.length) ∧ True) ∧
 ∀ (x : Nat),
 t ≤ (↑x : Int) ∧ x ≤ l.length →
 (decide ((↑x : Int) - (1 : Int) ≥ t) = true →
 ((0 : Int) ≤ (↑x : Int) - (1 : Int) ∧
 (↑x : Int) - (1 : Int) < (↑(itsL l).length : Int)) ∧
 ∃ (n : Int),
 ∃ (n_3 : Int),
 ∃ (s : List UInt8),
 ∃ (s_1 : List UInt8),
 ∃ (n_4 : Int),
 ∃ (n_5 : Int),
 takeAt PA 33 (itsL l)
 ((↑x : Int) - (1 : Int)).toNat 0 =
 some
 (AV.agg
 [AV.int IntKind.i64 n, AV.int IntKind.i64 n_3,
 AV.str s, AV.str s_1, AV.int IntKind.i64 n_4,
 AV.int IntKind.i64 n_5]) ∧
 ∃ (n_6 : Int),
 ∃ (n_7 : Int),
 ∃ (n_8 : Int),
 ∃ (es : List AV),
 ∃ (es_2 : List AV),
 CallIs
 (RO 14
 [AV.str op,
 AV.agg (stC (ofP op (List.take x l))),
 AV.agg
 [AV.int IntKind.i64 n,
 AV.int IntKind.i64 n_3, AV.str s,
 AV.str s_1,
 AV.int IntKind.i64 n_4,
 AV.int IntKind.i64
 (IntKind.i64.wrap
 ((0 : Int) - n_5))]])
 (AV.agg
 [AV.int IntKind.i64 n_6,
 AV.int IntKind.i64 n_7,
 AV.int IntKind.u64 n_8,
 AV.sl 6 es Own.no,
 AV.sl 2 es_2 Own.no])
 [] ∧
 (0 : Int) ≤ (↑x : Int) - (1 : Int) ∧
 ((0 : Nat) ≤
 ((↑x : Int) - (1 : Int)).toNat ∧
 ((↑x : Int) - (1 : Int)).toNat ≤
 (itsL l).length) ∧
 ((6 : Nat) = (6 : Nat) ∨ itsL l = []) ∧
 ∃ (n : Int),
 ∃ (n_9 : Int),
 ∃ (n_10 : Int),
 ∃ (es_3 : List AV),
 ∃ (es_4 : List AV),
 CallIs
 (RO 12
 [AV.str op,
 AV.sl 6
 (List.drop
 0
 (List.take
 ((↑x : Int) -
 (1 :
 Int)).toNat
 (itsL l)))
 Own.no])
 (AV.agg
 [AV.int IntKind.i64 n,
 AV.int IntKind.i64
 n_9,
 AV.int IntKind.u64
 n_10,
 AV.sl 6
 es_3 Own.no,
 AV.sl 2
 es_4 Own.no])
 [] ∧
 ∃ (b : Bool),
 CallIs
 (RO 13
 [AV.agg
 [AV.int
 IntKind.i64
 n_6,
 AV.int
 IntKind.i64
 n_7,
 AV.int
 IntKind.u64
 n_8,
 AV.sl
 (nat_lit
 6)
 es Own.no,
 AV.sl
 (nat_lit
 2)
 es_2
 Own.no],
 AV.agg
 [AV.int
 IntKind.i64
 n,
 AV.int
 IntKind.i64
 n_9,
 AV.int
 IntKind.u64
 n_10,
 AV.sl
 (nat_lit
 6)
 es_3
 Own.no,
 AV.sl
 (nat_lit
 2)
 es_4
 Own.no]])
 (AV.bool b) [] ∧
 (b = true →
 ∃ (y : Nat),
 ValsAre
 [AV.str op,
 AV.sl
 (nat_lit
 6)
 (itsL l)
 Own.no,
 AV.int
 IntKind.i64
 t,
 AV.ptr
 (nat_lit
 0)
 (nat_lit
 0),
 AV.int
 IntKind.i64
 (IntKind.i64.wrap
 ((↑x :
 Int) -
 (1 :
 Int) -
 (1 :
 Int)))]
 [AV.str op,
 AV.sl
 (nat_lit
 6)
 (itsL l)
 Own.no,
 AV.int
 IntKind.i64
 t,
 AV.ptr
 (nat_lit
 0)
 (nat_lit
 0),
 AV.int
 IntKind.i64
 ((↑y :
 Int) -
 (1 :
 Int))] ∧
 StIs
 { boxes := [some [AV.int IntKind.i64 n_6, AV.int IntKind.i64 n_7, AV.int IntKind.u64 n_8, AV.sl (nat_lit 6) es Own.no, AV.sl (nat_lit 2) es_2 Own.no]], live := [] }
 { boxes := [some [AV.int IntKind.i64 (ofP op (List.take y l)).n, AV.int IntKind.i64 (ofP op (List.take y l)).h, AV.int IntKind.u64 (ofP op (List.take y l)).l, AV.sl (nat_lit 6) (itsL (ofP op (List.take y l)).its) Own.no, AV.sl (nat_lit 2) (bksL (ofP op (List.take y l)).bks) Own.no]], live := [] } ∧
 (t ≤
 (↑y :
 Int) ∧
 y ≤
 l.length) ∧
 y < x) ∧
 (b = false →
 RetIs
 (AV.bool false)
 [] (r, []))) ∧
 (decide ((↑x : Int) - (1 : Int) ≥ t) = false →
 RetIs (AV.bool true) [] (r, [])))))) ∧
 (b = false → RetIs (AV.bool true) [] (r, []))) ∧
 (b = false → RetIs (AV.bool true) [] (r, []))) ∧
    (true = false → RetIs (AV.bool false) [] (r, []))) := by kernel_rfl
end Go.Abs

namespace Go.Abs
open Go.Proofs Go.Proofs.K17 Go.RowKit
theorem eqv_neg (L : List ItI) (x : ItI) : Eqv (L ++ [x] ++ [x.setC (-x.c)]) L := by
  refine ⟨?_, ?_, fun f k => ?_, fun k => ?_⟩
  · rw [sm_snoc, sm_snoc]; show _ + x.c + -x.c = _; omega
  · rw [sm_snoc, sm_snoc]; unfold gT; show _ + x.n * x.c + x.n * -x.c = _; rw [Int.mul_neg]; omega
  · have e : cntG f k (x.setC (-x.c)) = - cntG f k x := by
      unfold cntG; rw [ky_setC]; split <;> rfl
    show sm (cntG f k) _ = sm (cntG f k) L
    rw [sm_snoc, sm_snoc, e]; omega
  · have e : gB k (x.setC (-x.c)) = - gB k x := by
      unfold gB
      show (if idx x.n = k then -x.c else 0) = _
      split <;> rfl
    rw [sm_snoc, sm_snoc, e]; omega
theorem of_eqv {op : List UInt8} {fam : Fam} (hf : famO op = some fam) {a b : List ItI} (ha : ∀ x ∈ a, itOk x) (hb : ∀ x ∈ b, itOk x) (h : Eqv a b) : ofP op a = ofP op b :=
  ((stOf_of hf ha).eqv h).unique (stOf_of hf hb)
theorem back_of {op : List UInt8} {fam : Fam} (hf : famO op = some fam) {l : List ItI} (hl : ∀ x ∈ l, itOk x) {j : Nat} (hj : j < l.length) (hn : itOk (l[j].setC (-l[j].c))) : addP op (ofP op (l.take (j + 1))) (l[j].setC (-l[j].c)) = ofP op (l.take j) := by
  have h1 : ∀ x ∈ l.take (j + 1), itOk x := fun x hx => hl x (List.mem_of_mem_take hx)
  have h2 : ∀ x ∈ l.take j, itOk x := fun x hx => hl x (List.mem_of_mem_take hx)
  have := stOf_add hf (stOf_of hf h1) hn
  rw [List.take_succ_eq_append_getElem hj] at this
  rw [List.take_succ_eq_append_getElem hj]
  exact (this.eqv (eqv_neg _ _)).unique (stOf_of hf h2)
theorem turn_perm (l : List ItI) (t : Int) : (turnP l t).Perm l := by
  unfold turnP
  exact (List.perm_append_comm).trans (.of_eq (List.take_append_drop _ _))
theorem bnd_ok {x : ItI} (h : bndI x = true) : -1099511627776 ≤ x.c ∧ x.c ≤ 1099511627776 := by
  unfold bndI at h
  simpa using h
abbrev tO : List (FuncId × Spec) := [(7, s7), (10, s10), (11, s11), (12, s12), (13, s13), (14, s14)]
theorem q11 {l : List ItI} (h : l.length ≤ maxLen) : tbl tO 11 [.sl 6 (itsL l) .no] = some (.bool (smallP l), []) := by
  rw [tb_miss (by decide), tb_miss (by decide), tb_hit]; simp only [s11, show unL unI (itsL l) = some l from unL_map unI_ok l]
  rw [if_pos ⟨.inl trivial, h⟩]
theorem q12 {op : List UInt8} {l : List ItI} (h : l.length ≤ 1000) (hx : ∀ x ∈ l, itOk x) : tbl tO 12 [.str op, .sl 6 (itsL l) .no] = some (stA (ofP op l), []) := by
  rw [tb_miss (by decide), tb_miss (by decide), tb_miss (by decide), tb_hit]; simp only [s12, show unL unI (itsL l) = some l from unL_map unI_ok l]
  rw [if_pos ⟨.inl trivial, h, hx⟩]
theorem q13 {a b : StI} (h1 : a.its.length ≤ 2000000) (h2 : a.bks.length ≤ 2000000) (h : a = b) : tbl tO 13 [.agg (stC a), .agg (stC b)] = some (.bool true, []) := by
  rw [tb_miss (by decide), tb_miss (by decide), tb_miss (by decide), tb_miss (by decide), tb_hit]
  simp only [s13, show unSt (.agg (stC a)) = some a from unSt_ok a, show unSt (.agg (stC b)) = some b from unSt_ok b]
  rw [if_pos ⟨h1, h2⟩, decide_eq_true h]
theorem q14 {op : List UInt8} {s : StI} {x : ItI} (hs : stOk s) (hx : itOk x) : tbl tO 14 [.str op, .agg (stC s), .agg (itC x)] = some (stA (addP op s x), []) := by
  rw [tb_miss (by decide), tb_miss (by decide), tb_miss (by decide), tb_miss (by decide), tb_miss (by decide), tb_hit]
  simp only [s14, show unSt (.agg (stC s)) = some s from unSt_ok s, show unI (.agg (itC x)) = some x from unI_ok x]
  rw [if_pos ⟨hx, hs⟩]
theorem p4 (op : List UInt8) (l : List ItI) (t : Int) (hl : l.length ≤ maxLen) (ol : ∀ x ∈ l, itOk x) :
    PureOk PA GA XL RO (itbl []) (a4 op l t) [] 4 [.str op, .sl 6 (itsL l) .no, .int .i64 t] (.bool true, []) := by
  constructor
  rw [w4]
  unfold RO
  have yes : RetIs (AV.bool true) [] (AV.bool true, []) := retIs_iff.2 rfl
  refine ⟨callIs_iff.2 rfl, fun _ => ⟨_, callIs_iff.2 rfl, fun hk => ⟨_, callIs_iff.2 (q11 hl), fun h1 => ⟨fun _ => yes, fun c1 => ⟨fun _ => yes, fun c2 => ⟨fun _ => yes, fun c3 => ?_⟩⟩⟩, fun _ => yes⟩, fun _ => yes⟩, fun h => (nomatch h)⟩
  have h1 := small_len h1
  have c2 := of_decide_eq_false c2
  have c3 := of_decide_eq_false c3
  rw [len_its] at c3
  obtain ⟨fam, hf⟩ := Option.isSome_iff_exists.1 hk
  have B := ofP_ok op ol
  have tn : t.toNat < l.length := by omega
  have hD : List.drop t.toNat (List.take (itsL l).length (itsL l)) = itsL (l.drop t.toNat) := by rw [List.take_length]; exact (List.map_drop ..).symm
  have hT : List.drop 0 (List.take t.toNat (itsL l)) = itsL (l.take t.toNat) := by rw [List.drop_zero]; exact (List.map_take ..).symm
  have oP : ∀ {m : List ItI}, m.Perm l → ∀ x ∈ m, itOk x := fun hm x hx => ol x (hm.mem_iff.1 hx)
  have len2 : ∀ {s : StI} {n : Nat}, StB s n → n ≤ 1000 → s.its.length ≤ 2000000 ∧ s.bks.length ≤ 2000000 := fun h hn => ⟨by have := h.i; omega, by have := h.k; omega⟩
  have same : ∀ {m : List ItI}, m.Perm l → tbl tO 12 [.str op, .sl 6 (itsL m) .no] = some (stA (ofP op m), []) ∧ tbl tO 13 [.agg (stC (ofP op l)), .agg (stC (ofP op m))] = some (.bool true, []) := fun {m} hm => by
    refine ⟨q12 (by rw [hm.length_eq]; omega) (oP hm), q13 (len2 B (by omega)).1 (len2 B (by omega)).2 ?_⟩
    exact of_eqv hf ol (oP hm) (Eqv.perm hm.symm)
  refine ⟨⟨⟨0, ⟨rfl⟩, ⟨rfl⟩, ⟨Nat.zero_le _, by rw [List.take_zero]; rfl⟩, trivial⟩, fun i hi => ⟨fun lt => ?_, fun ge => ⟨(), ⟨rfl⟩, ⟨rfl⟩, ?_, trivial⟩⟩⟩, fun _ hI _ => ?_⟩
  · have lt := of_decide_eq_true lt
    rw [len_its] at lt
    have hil : i < l.length := by omega
    refine ⟨⟨by omega, by rw [len_its]; omega⟩, _, by rw [Int.toNat_natCast]; exact take_ic hil, fun _ => yes, fun d => ⟨⟨by omega, by rw [len_its]; omega⟩, _, by rw [Int.toNat_natCast]; exact take_ic hil, fun _ => yes, fun e => ⟨i + 1, ⟨by rw [wrapN (by omega)]⟩, ⟨rfl⟩, ⟨hil, all_succ hil hi.2 ?_⟩, by omega⟩⟩⟩
    have d := of_decide_eq_false d
    have e := of_decide_eq_false e
    unfold bndI
    rw [decide_eq_true (by omega), decide_eq_true (by omega)]; rfl
  · have ge := of_decide_eq_false ge
    rw [len_its] at ge
    have h2 := hi.2
    rwa [List.take_of_length_le (by omega)] at h2
  have bnd : ∀ x ∈ l, -1099511627776 ≤ x.c ∧ x.c ≤ 1099511627776 := fun x hx => bnd_ok (List.all_eq_true.1 hI x hx)
  refine ⟨_, _, _, _, _, callIs_iff.2 (q12 (by omega) ol), ?_⟩
  simp only [hD, hT]
  simp only [len_its, List.nil_append, List.length_drop, List.length_take]
  refine ⟨⟨by omega, ⟨by omega, by omega⟩, .inl trivial, .inl trivial, by omega, fun e => ?_, fun _ => ⟨by omega, ⟨by omega, by omega⟩, .inl trivial, .inl trivial, by omega, by omega, (), ⟨?_⟩, ⟨rfl⟩, trivial, trivial⟩⟩, fun _ _ _ => ⟨⟨⟨0, ⟨?_⟩, ⟨rfl⟩, Nat.zero_le _, trivial⟩, fun j hj => ⟨fun d => ?_, fun d => ⟨(), ⟨?_⟩, ⟨rfl⟩, trivial, trivial⟩⟩⟩, fun _ _ _ => ⟨?_, fun _ _ _ => ⟨⟨l.length, ⟨?_⟩, ⟨by rw [List.take_length]⟩, ⟨by omega, Nat.le_refl _⟩, trivial⟩, fun m hm => ⟨fun d => ?_, fun _ => yes⟩⟩⟩⟩⟩
  · have := its_nil e
    have := congrArg List.length this
    rw [List.length_drop, List.length_nil] at this
    omega
  · have : itsL (l.drop t.toNat) ++ itsL (l.take t.toNat) = itsL (turnP l t) := by unfold turnP; exact (List.map_append ..).symm
    rw [this]
  · rw [iwN ⟨by omega, by omega⟩, List.take_zero]
    show _ = [_, _, _, _, _, _, AV.int .i64 ((l.length : Int) - 1 - (0 : Nat))]
    simp
    rfl
  · have d := of_decide_eq_true d
    have hjl : j < l.length := by omega
    have e : ((l.length : Int) - 1 - j).toNat = l.length - 1 - j := by omega
    have hr : l.length - 1 - j < l.length := by omega
    refine ⟨⟨by omega, by omega⟩, _, _, _, _, _, _, by rw [e]; exact take_it hr, .inl trivial, by omega, by rw [List.length_reverse]; omega, j + 1, ⟨?_⟩, ⟨by rw [List.length_reverse, Nat.min_eq_left (by omega)]⟩, hjl, by omega⟩
    have e2 : itsL (l.reverse.take j) ++ [AV.agg (itC l[l.length - 1 - j])] = itsL (l.reverse.take (j + 1)) := by
      have hjr : j < l.reverse.length := by rw [List.length_reverse]; exact hjl
      rw [List.take_succ_eq_append_getElem hjr, List.getElem_reverse]
      unfold itsL
      rw [List.map_append]; rfl
    rw [iwN ⟨by omega, by omega⟩, e2]
    have : (l.length : Int) - 1 - j - 1 = (l.length : Int) - 1 - ((j + 1 : Nat) : Int) := by omega
    rw [this]
  · have d := of_decide_eq_false d
    rw [List.take_of_length_le (by rw [List.length_reverse]; omega)]
  · obtain ⟨a1, a2⟩ := same (turn_perm l t)
    obtain ⟨b1, b2⟩ := same l.reverse_perm
    exact ⟨_, _, _, _, _, callIs_iff.2 a1, true, callIs_iff.2 a2, fun _ => ⟨_, _, _, _, _, callIs_iff.2 b1, true, callIs_iff.2 b2, fun _ => ⟨(), ⟨rfl⟩, ⟨rfl⟩, trivial, trivial⟩, fun h => (nomatch h)⟩, fun h => (nomatch h)⟩
  · rw [iwN ⟨by omega, by omega⟩]
  · have d := of_decide_eq_true d
    obtain ⟨j, rfl⟩ : ∃ j, m = j + 1 := ⟨m - 1, by omega⟩
    have hjl : j < l.length := by omega
    have e : (((j + 1 : Nat) : Int) - 1).toNat = j := by omega
    have hb := bnd l[j] (List.getElem_mem hjl)
    have hoj := ol l[j] (List.getElem_mem hjl)
    have hneg : IntKind.i64.wrap (0 - l[j].c) = -l[j].c := by rw [iwN ⟨by omega, by omega⟩]; omega
    have hno : itOk (l[j].setC (-l[j].c)) := ⟨hoj.1, by show iOk (-l[j].c); unfold iOk; omega⟩
    have hbk := back_of hf ol hjl hno
    have o1 : ∀ x ∈ l.take (j + 1), itOk x := fun x hx => ol x (List.mem_of_mem_take hx)
    have o2 : ∀ x ∈ l.take j, itOk x := fun x hx => ol x (List.mem_of_mem_take hx)
    have B1 := (ofP_ok op o1).ok (by rw [List.length_take]; omega)
    have B2 := len2 (ofP_ok op o2) (by rw [List.length_take]; omega)
    have hT2 : List.drop 0 (List.take (((j + 1 : Nat) : Int) - 1).toNat (itsL l)) = itsL (l.take j) := by rw [List.drop_zero, e]; exact (List.map_take ..).symm
    have c14 : tbl tO 14 [.str op, .agg (stC (ofP op (l.take (j + 1)))), .agg [.int .i64 l[j].k, .int .i64 l[j].n, .str l[j].s, .str l[j].src, .int .i64 l[j].q, .int .i64 (IntKind.i64.wrap (0 - l[j].c))]] = some (stA (ofP op (l.take j)), []) := by
      rw [hneg, ← hbk]; exact q14 (x := l[j].setC (-l[j].c)) B1 hno
    have c12 : tbl tO 12 [.str op, .sl 6 (List.drop 0 (List.take (((j + 1 : Nat) : Int) - 1).toNat (itsL l))) .no] = some (stA (ofP op (l.take j)), []) := by
      rw [hT2]; exact q12 (by rw [List.length_take]; omega) o2
    refine ⟨⟨by omega, by omega⟩, _, _, _, _, _, _, by rw [e]; exact take_it hjl, _, _, _, _, _, callIs_iff.2 c14, by omega, ⟨by omega, by omega⟩, .inl trivial, _, _, _, _, _, callIs_iff.2 c12, true, callIs_iff.2 (q13 B2.1 B2.2 rfl), fun _ => ⟨j, ⟨?_⟩, ⟨rfl⟩, ⟨by omega, by omega⟩, by omega⟩, fun h => (nomatch h)⟩
    rw [iwN ⟨by omega, by omega⟩]
    have : (((j + 1 : Nat) : Int) - 1 - 1) = (j : Int) - 1 := by omega
    rw [this]
theorem o4 : SpecOk PA GA 4 s4 := spec_wkS fun args r h => by
  unfold s4 at h
  split at h
  case h_2 => cases h
  split at h
  case h_2 => cases h
  rename_i l hl
  split at h
  case isFalse => cases h
  rename_i hh
  obtain ⟨z1, l1, ol, ht⟩ := hh
  injection h with h; subst h
  obtain rfl := unL_inv unI_inv hl
  rw [List.map_cons, List.map_cons, List.map_cons, List.map_nil, wk_its z1]
  have hR : CalleeOk PA GA RO := tbl_cons o7 (tbl_cons o10 (tbl_cons o11 (tbl_cons o12 (tbl_cons o13 (tbl_cons o14 tbl_nil)))))
  exact one_pure mixedA hR itbl_nil (p4 _ l _ l1 ol)
theorem s4_true (op : List UInt8) (l : List ItI) (t : Int) (nl : l.length ≤ maxLen ∧ ∀ x ∈ l, itOk x) (nt : iOk t) : s4 [.str op, .sl 6 (itsL l) .no, .int .i64 t] = some (.bool true, []) := by
  simp only [s4, show unL unI (itsL l) = some l from unL_map unI_ok l]
  rw [if_pos ⟨.inl trivial, nl.1, nl.2, nt⟩]
end Go.Abs

namespace Go.Abs
open Go.ChangeShapes Go.WideShapes Go.ChangeAt Go.RowKit Go.Deep Go.ChangeMaps
open Go.Proofs Go.Proofs.Ytdajfgkcpflacaa
section
variable {H : Type} {enc : TypeId × Value → H} {P : Program} {W : World}
def ElemR (P : Program) (W : World) (enc : TypeId × Value → H) (e : TypeId) {α : Type} (g : α → AV) (Q : α → DataW H → Prop) : Prop :=
  ∀ n cs x, DataW.trod enc P W 0 (fun _ => true) true n e cs = some x → ∃ a : α, Q a x.1 ∧ ∀ (j : Nat) (c : AV) (u : Value), (g a).cells[j]? = some c → cs[j]? = some u → Rep (oldE W) W c u ∧ u.oneCell' = true
theorem open_slR {t e : TypeId} {sz : Nat} {α : Type} [Inhabited α] {g : α → AV} {Q : α → DataW H → Prop} (ht : P.underlying t = some (.slice e)) (hc : P.cellsOf e = sz) (hsz : 0 < sz) (hg : ∀ a, (g a).cells.length = sz ∧ (g a).closed1 = true) (hel : ElemR P W enc e g Q)
    {v : Value} {d : DataW H} {ps : List MemPlace} (hv : ∃ A len cap, v = .slice A len cap) (h : DataW.Trod enc P W 0 (fun _ => true) true t v d ps) :
    ∃ l : List α, Rep (oldE W) W (.sl sz (l.map g) .no) v ∧ (l = [] ∨ ∃ elems spare, d = .slice elems spare ∧ elems.length = l.length ∧ ∀ (i : Nat) a x, l[i]? = some a → elems[i]? = some x → Q a x) := by
  obtain ⟨a, len, cap, rfl⟩ := hv
  obtain ⟨fuel, h⟩ := h
  rcases open_slice ht h with ⟨hcs, _⟩ | ⟨a', len', cap', m, n, D, Pl, hcs, hb, hl, hmx, hm, hx, hels⟩
  · simp [Value.cells] at hcs
    obtain ⟨rfl, rfl, rfl⟩ := hcs
    exact ⟨[], .sl sz [] .no none 0 (fun _ _ => .bool false) (by simp) (by simp [maxLen]) (.inl rfl) (by simp) (by simp) trivial (by simp) (fun _ _ => rfl), .inl rfl⟩
  · simp [Value.cells] at hcs
    obtain ⟨rfl, rfl, rfl⟩ := hcs
    have hm' : m = cap := by simpa using hm
    have hch : ∀ i, i < len → ∃ x : α × List Value, x.2.length = sz ∧ (∀ j, j < sz → W.cell? (a'.add (i * sz + j)) = x.2[j]?) ∧ Q x.1 (D i) ∧ ∀ (j : Nat) (c : AV) (u : Value), (g x.1).cells[j]? = some c → x.2[j]? = some u → Rep (oldE W) W c u ∧ u.oneCell' = true := fun i hi => by
      obtain ⟨cs, hcs, ht'⟩ := hels i (by omega)
      rw [hc] at hcs
      obtain ⟨_, hlen, hat⟩ := World.cells?_some hcs
      obtain ⟨x, hq, hx⟩ := hel n cs _ ht'
      refine ⟨(x, cs), hlen, fun j hj => ?_, hq, hx⟩
      have := hat j hj
      rw [Go.Deep.add_add] at this
      exact this
    obtain ⟨f, hf⟩ := choose_lt hch
    refine ⟨(List.range len).map fun i => (f i).1, ?_, .inr ?_⟩
    · have hlen : ((List.range len).map fun i => (f i).1).length = len := by simp
      have hln : (((List.range len).map fun i => (f i).1).map g).length = len := by simp
      have hget : ∀ (i : Nat) (e' : AV), (((List.range len).map fun i => (f i).1).map g)[i]? = some e' → i < len ∧ e' = g (f i).1 := fun i e' h => by
        have hi : i < len := by
          have := (List.getElem?_eq_some_iff.1 h).1
          simpa using this
        refine ⟨hi, ?_⟩
        simp [List.getElem?_range hi] at h
        exact h.symm
      let u : Nat → Nat → Value := fun i j => if i < len ∧ j < sz then ((f i).2[j]?).getD (.bool false) else .bool false
      have hu : ∀ i j, i < len → j < sz → (f i).2[j]? = some (u i j) := fun i j hi hj => by
        have h2 : j < (f i).2.length := by rw [(hf i hi).1]; exact hj
        simp only [u, hi, hj, and_self, if_true, List.getElem?_eq_getElem h2, Option.getD_some]
      have key := Rep.sl (E := oldE W) (w := W) sz (((List.range len).map fun i => (f i).1).map g) .no (some a') cap u (by rw [hln]; exact hl) hmx ?_ ?_ ?_ trivial ?_ ?_
      · rw [hln] at key; exact key
      · rcases Nat.eq_zero_or_pos len with h0 | h0
        · left; subst h0; rfl
        · right
          have h1 := (hf 0 h0).2.1 0 hsz
          rw [hu 0 0 h0 hsz] at h1
          have hadd : a'.add (0 * sz + 0) = a' := by unfold Addr.add; simp
          rw [hadd] at h1
          have hp := addr_plain h1
          refine ⟨a'.block, a'.off, by rw [← hp], fun i e' j c hi hj => ?_⟩
          obtain ⟨hlt, rfl⟩ := hget i e' hi
          have hjs : j < sz := by
            have := (List.getElem?_eq_some_iff.1 hj).1
            rw [(hg _).1] at this; exact this
          have h2 := (hf i hlt).2.1 j hjs
          rw [hu i j hlt hjs, hp, addp] at h2
          have e : a'.off + i * sz + j = a'.off + (i * sz + j) := by omega
          refine ⟨cell_lt h1, by rw [e]; exact h2⟩
      · intro e' he
        obtain ⟨x, hx, rfl⟩ := List.mem_map.1 he
        exact (hg x).1
      · intro e' he
        obtain ⟨x, hx, rfl⟩ := List.mem_map.1 he
        exact (hg x).2
      · intro i e' j c hi hj
        obtain ⟨hlt, rfl⟩ := hget i e' hi
        have hjs : j < sz := by
          have := (List.getElem?_eq_some_iff.1 hj).1
          rw [(hg _).1] at this; exact this
        exact ((hf i hlt).2.2.2 j c (u i j) hj (hu i j hlt hjs)).1
      · intro i j
        by_cases hij : i < len ∧ j < sz
        · have hjs : j < (g (f i).1).cells.length := by rw [(hg _).1]; exact hij.2
          exact ((hf i hij.1).2.2.2 j _ (u i j) (List.getElem?_eq_getElem hjs) (hu i j hij.1 hij.2)).2
        · simp only [u, if_neg hij]; rfl
    · have hx1 := congrArg Prod.fst hx
      simp only at hx1
      refine ⟨_, _, hx1, by simp, fun i a x hi hxi => ?_⟩
      have hlt : i < len := by
        have := (List.getElem?_eq_some_iff.1 hi).1
        simpa using this
      simp [List.getElem?_range hlt] at hi hxi
      subst hi; subst hxi
      exact (hf i hlt).2.2.1

/-! cells that read so -/
def CellsAre (W : World) (l : List AV) (cs : List Value) : Prop :=
  l.length = cs.length ∧ ∀ (j : Nat) (c : AV) (u : Value), l[j]? = some c → cs[j]? = some u → Rep (oldE W) W c u ∧ u.oneCell' = true
theorem CellsAre.one {c : AV} {u : Value} (h : Rep (oldE W) W c u) (h1 : u.oneCell' = true) : CellsAre W [c] [u] := ⟨rfl, fun j c' u' hc hu => by
  match j, hc, hu with
  | 0, hc, hu => simp at hc hu; subst hc; subst hu; exact ⟨h, h1⟩⟩
theorem CellsAre.append {l r : List AV} {cs ds : List Value} (h : CellsAre W l cs) (k : CellsAre W r ds) : CellsAre W (l ++ r) (cs ++ ds) := by
  refine ⟨by simp [h.1, k.1], fun j c u hc hu => ?_⟩
  rcases Nat.lt_or_ge j l.length with hj | hj
  · rw [List.getElem?_append_left hj] at hc
    rw [List.getElem?_append_left (by rw [← h.1]; exact hj)] at hu
    exact h.2 j c u hc hu
  · rw [List.getElem?_append_right hj] at hc
    rw [List.getElem?_append_right (by rw [← h.1]; exact hj), ← h.1] at hu
    exact k.2 _ c u hc hu
/-- a struct's cells, field behind field -/
theorem CellsAre.next {l r : List AV} {cs : List Value} {o s p : Nat} (h : CellsAre W l ((cs.drop o).take s)) (hp : p = o + s) (k : CellsAre W r (cs.drop p)) : CellsAre W (l ++ r) (cs.drop o) := by
  subst hp
  have := h.append k
  rwa [← List.drop_drop, List.take_append_drop] at this
theorem CellsAre.last {l : List AV} {cs : List Value} {o s : Nat} (h : CellsAre W l ((cs.drop o).take s)) (hs : cs.length = o + s) : CellsAre W l (cs.drop o) := by
  rwa [List.take_of_length_le (by rw [List.length_drop]; omega)] at h
/-- what is read of a type -/
def ReadsAs (P : Program) (W : World) (enc : TypeId × Value → H) (t : TypeId) {α : Type} (g : α → List AV) (Q : α → Nat → Prop) : Prop :=
  ∀ n cs x, DataW.trod enc P W 0 (fun _ => true) true n t cs = some x → ∃ a : α, Q a (Rows.uptoBulk x.1) ∧ CellsAre W (g a) cs
theorem reads_str {t : TypeId} (ht : P.underlying t = some .string) : ReadsAs P W enc t (fun s : List UInt8 => [.str s]) (fun s n => s.length ≤ n) := by
  intro n cs x h
  obtain ⟨s, rfl, rfl, _⟩ := DataW.trod_string ht h
  exact ⟨s.data.toList, by simp [Rows.uptoBulk], .one (mk_str s) rfl⟩
theorem reads_int {t : TypeId} (ht : P.underlying t = some (.int .i64)) : ReadsAs P W enc t (fun n : Int => [.int .i64 n]) (fun n _ => -9223372036854775808 ≤ n ∧ n ≤ 9223372036854775807) := by
  intro n cs x h
  obtain ⟨k, rfl, _, hw⟩ := DataW.trod_int ht h
  have := int_rng hw
  exact ⟨k, ⟨this.1, by omega⟩, .one (.int _ _) rfl⟩
namespace Bulks
theorem one_le (d : DataW H) : 1 ≤ Rows.uptoBulk d := by
  cases d with
  | lit l => cases l <;> simp [Rows.uptoBulk]
  | nil => simp [Rows.uptoBulk]
  | ptr d => simp [Rows.uptoBulk]
  | slice elems spare => simp [Rows.uptoBulk]
  | agg parts => simp [Rows.uptoBulk]
  | iface t d => simp [Rows.uptoBulk]
  | map entries => simp [Rows.uptoBulk]
  | held h => simp [Rows.uptoBulk]
theorem part_le {d : DataW H} {l : List (DataW H)} (h : d ∈ l) : Rows.uptoBulk d ≤ Rows.uptoBulkAll l := by
  induction l with
  | nil => cases h
  | cons x r ih =>
    simp only [Rows.uptoBulkAll]
    cases List.mem_cons.1 h with
    | inl e => subst e; omega
    | inr e => have := ih e; omega
theorem length_le (l : List (DataW H)) : l.length ≤ Rows.uptoBulkAll l := by
  induction l with
  | nil => simp [Rows.uptoBulkAll]
  | cons x r ih => have := one_le x; simp only [Rows.uptoBulkAll, List.length_cons]; omega
theorem bound {l : List (DataW H)} (hk : Rows.uptoSmall H l = true) : Rows.uptoBulkAll l ≤ 1048576 := by
  simpa [Rows.uptoSmall] using hk
theorem field_le {xs : List (DataW H × List MemPlace)} {i : Nat} {y : DataW H × List MemPlace} (h : xs[i]? = some y) : Rows.uptoBulk y.1 ≤ Rows.uptoBulk (DataW.agg (xs.map (·.1))) := by
  have := part_le (List.mem_map_of_mem (f := fun y : DataW H × List MemPlace => y.1) (List.mem_of_getElem? h))
  simp only [Rows.uptoBulk]
  omega
end Bulks
theorem reads_slice {t e : TypeId} {sz : Nat} {α : Type} [Inhabited α] {g : α → AV} {Q : α → Nat → Prop} (ht : P.underlying t = some (.slice e)) (hc : P.cellsOf e = sz) (hsz : 0 < sz) (hg : ∀ a, (g a).cells.length = sz ∧ (g a).closed1 = true) (hel : ReadsAs P W enc e (fun a => (g a).cells) Q)
    (hQ : ∀ a n m, Q a n → n ≤ m → Q a m) : ReadsAs P W enc t (fun l : List α => [.sl sz (l.map g) .no]) (fun l n => l.length ≤ n ∧ ∀ a ∈ l, Q a n) := by
  intro n cs x h
  have hs : ∃ A len cap, cs = [.slice A len cap] := by
    rcases open_slice ht h with ⟨hcs, _⟩ | ⟨a', len', cap', m, n, D, Pl, hcs, _⟩
    · exact ⟨_, _, _, hcs⟩
    · exact ⟨_, _, _, hcs⟩
  obtain ⟨A, len, cap, rfl⟩ := hs
  have hel' : ElemR P W enc e g (fun a d => Q a (Rows.uptoBulk d)) := fun n cs x h => by
    obtain ⟨a, h1, h2⟩ := hel n cs x h
    exact ⟨a, h1, h2.2⟩
  obtain ⟨l, hl, hb⟩ := open_slR ht hc hsz hg hel' ⟨A, len, cap, rfl⟩ (d := x.1) (ps := x.2) ⟨n, by simpa [Value.cells] using h⟩
  refine ⟨l, ?_, .one hl rfl⟩
  rcases hb with rfl | ⟨elems, spare, he, hlen, hq⟩
  · exact ⟨Nat.zero_le _, fun a ha => by cases ha⟩
  · rw [he]
    have hE : Rows.uptoBulk (DataW.slice elems spare) = Rows.uptoBulkAll elems + Rows.uptoBulkAll spare + 1 := by simp only [Rows.uptoBulk]
    rw [hE]
    refine ⟨by have := Bulks.length_le elems; omega, fun a ha => ?_⟩
    obtain ⟨i, hi⟩ := List.mem_iff_getElem?.1 ha
    have hlt : i < elems.length := by rw [hlen]; exact (List.getElem?_eq_some_iff.1 hi).1
    have hx := List.getElem?_eq_getElem hlt
    refine hQ a _ _ (hq i a _ hi hx) ?_
    have := Bulks.part_le (List.mem_of_getElem? hx)
    omega
/-! cells of any type -/
end
end Go.Abs

namespace Go.Abs
open Go.ChangeShapes Go.WideShapes Go.ChangeAt Go.RowKit Go.Deep Go.ChangeMaps
open Go.Proofs Go.Proofs.Ytdajfgkcpflacaa
section
variable {H : Type} {enc : TypeId × Value → H} {P : Program} {W : World}
theorem fieldR {t : TypeId} {α : Type} {g : α → List AV} {Q : α → Nat → Prop} (hr : ReadsAs P W enc t g Q) (hQ : ∀ a n m, Q a n → n ≤ m → Q a m) {fs : Array Field} {xs : List (DataW H × List MemPlace)} {n : Nat} {cs : List Value} {x : DataW H × List MemPlace}
    (hx : x = (.agg (xs.map (·.1)), xs.flatMap (·.2))) (hxl : xs.length = fs.size)
    (hf : ∀ (i : Nat) (f : Field), fs[i]? = some f → DataW.trod enc P W 0 (fun _ => true) true n f.type ((cs.drop f.offset).take (P.cellsOf f.type)) = xs[i]?)
    (i : Nat) {f : Field} (hi : fs[i]? = some f) (ht : f.type = t) {o s : Nat} (ho : f.offset = o) (hs : P.cellsOf t = s) : ∃ a, Q a (Rows.uptoBulk x.1) ∧ CellsAre W (g a) ((cs.drop o).take s) := by
  have h := hf i f hi
  rw [ht, ho, hs] at h
  have hil : i < xs.length := by rw [hxl]; exact (Array.getElem?_eq_some_iff.1 hi).1
  have hg := List.getElem?_eq_getElem hil
  rw [hg] at h
  obtain ⟨a, h1, h2⟩ := hr n _ _ h
  refine ⟨a, hQ a _ _ h1 ?_, h2⟩
  rw [hx]
  exact Bulks.field_le hg
theorem ReadsAs.map {t : TypeId} {α β : Type} {g : α → List AV} {g' : β → List AV} {Q : α → Nat → Prop} {Q' : β → Nat → Prop} (h : ReadsAs P W enc t g Q) (f : α → β) (hg : ∀ a, g a = g' (f a)) (hQ : ∀ a n, Q a n → Q' (f a) n) : ReadsAs P W enc t g' Q' := fun n cs x hx => by
  obtain ⟨a, h1, h2⟩ := h n cs x hx
  exact ⟨f a, hQ a _ h1, by rw [← hg]; exact h2⟩
end
section
variable {H : Type} {enc : TypeId × Value → H} {W : World}
theorem cz3 : PA.cellsOf 3 = 1 := by kernel_rfl
theorem cz9 : PA.cellsOf 9 = 1 := by kernel_rfl
theorem cz29 : PA.cellsOf 29 = 3 := by kernel_rfl
theorem cz31 : PA.cellsOf 31 = 2 := by kernel_rfl
theorem cz33 : PA.cellsOf 33 = 6 := by kernel_rfl
theorem st29 : ∃ f0 f1 f2 : Field, PA.underlying 29 = some (.struct #[f0, f1, f2]) ∧ (f0.type = 3 ∧ f0.offset = 0) ∧ (f1.type = 3 ∧ f1.offset = 1) ∧ (f2.type = 9 ∧ f2.offset = 2) := ⟨_, _, _, Try.underlying29, ⟨rfl, rfl⟩, ⟨rfl, rfl⟩, ⟨rfl, rfl⟩⟩
theorem st31 : ∃ f0 f1 : Field, PA.underlying 31 = some (.struct #[f0, f1]) ∧ (f0.type = 9 ∧ f0.offset = 0) ∧ (f1.type = 3 ∧ f1.offset = 1) := ⟨_, _, Try.underlying31, ⟨rfl, rfl⟩, ⟨rfl, rfl⟩⟩
theorem st33 : ∃ f0 f1 f2 : Field, PA.underlying 33 = some (.struct #[f0, f1, f2]) ∧ (f0.type = 29 ∧ f0.offset = 0) ∧ (f1.type = 31 ∧ f1.offset = 3) ∧ (f2.type = 3 ∧ f2.offset = 5) := ⟨_, _, _, Try.underlying33, ⟨rfl, rfl⟩, ⟨rfl, rfl⟩, ⟨rfl, rfl⟩⟩
def rngI (n : Int) : Prop := -9223372036854775808 ≤ n ∧ n ≤ 9223372036854775807
theorem rng_ok {n : Int} (h : rngI n) : iOk n := by unfold rngI at h; unfold iOk; omega
theorem rStr : ReadsAs PA W enc 9 (fun s : List UInt8 => [.str s]) (fun _ _ => True) := fun n cs x h => by
  obtain ⟨a, _, h2⟩ := reads_str Try.underlying9 n cs x h
  exact ⟨a, trivial, h2⟩
theorem rInt : ReadsAs PA W enc 3 (fun n : Int => [.int .i64 n]) (fun n _ => rngI n) := reads_int Try.underlying3
theorem rVal : ReadsAs PA W enc 29 (fun v : Int × Int × List UInt8 => [.int .i64 v.1, .int .i64 v.2.1, .str v.2.2]) (fun v _ => rngI v.1 ∧ rngI v.2.1) := by
  intro n cs x h
  obtain ⟨f0, f1, f2, hu, ⟨t0, o0⟩, ⟨t1, o1⟩, ⟨t2, o2⟩⟩ := st29
  obtain ⟨xs, m, _, hx, hlen, hxl, hf⟩ := DataW.trod_struct hu h
  obtain ⟨a0, q0, c0⟩ := fieldR rInt (fun _ _ _ h _ => h) hx hxl hf 0 rfl t0 o0 cz3
  obtain ⟨a1, q1, c1⟩ := fieldR rInt (fun _ _ _ h _ => h) hx hxl hf 1 rfl t1 o1 cz3
  obtain ⟨a2, q2, c2⟩ := fieldR rStr (fun _ _ _ h _ => h) hx hxl hf 2 rfl t2 o2 cz9
  exact ⟨(a0, a1, a2), ⟨q0, q1⟩, c0.next rfl (c1.next rfl (c2.last (by rw [hlen]; exact cz29)))⟩
theorem rMark : ReadsAs PA W enc 31 (fun p : List UInt8 × Int => [.str p.1, .int .i64 p.2]) (fun p _ => rngI p.2) := by
  intro n cs x h
  obtain ⟨f0, f1, hu, ⟨t0, o0⟩, ⟨t1, o1⟩⟩ := st31
  obtain ⟨xs, m, _, hx, hlen, hxl, hf⟩ := DataW.trod_struct hu h
  obtain ⟨a0, q0, c0⟩ := fieldR rStr (fun _ _ _ h _ => h) hx hxl hf 0 rfl t0 o0 cz9
  obtain ⟨a1, q1, c1⟩ := fieldR rInt (fun _ _ _ h _ => h) hx hxl hf 1 rfl t1 o1 cz3
  exact ⟨(a0, a1), q1, c0.next rfl (c1.last (by rw [hlen]; exact cz31))⟩
def itQ (x : ItI) (_ : Nat) : Prop := rngI x.k ∧ rngI x.n ∧ rngI x.q ∧ rngI x.c
theorem rItem : ReadsAs PA W enc 33 (fun x : ItI => (itA x).cells) itQ := by
  intro n cs x h
  obtain ⟨f0, f1, f2, hu, ⟨t0, o0⟩, ⟨t1, o1⟩, ⟨t2, o2⟩⟩ := st33
  obtain ⟨xs, m, _, hx, hlen, hxl, hf⟩ := DataW.trod_struct hu h
  obtain ⟨a0, q0, c0⟩ := fieldR rVal (fun _ _ _ h _ => h) hx hxl hf 0 rfl t0 o0 cz29
  obtain ⟨a1, q1, c1⟩ := fieldR rMark (fun _ _ _ h _ => h) hx hxl hf 1 rfl t1 o1 cz31
  obtain ⟨a2, q2, c2⟩ := fieldR rInt (fun _ _ _ h _ => h) hx hxl hf 2 rfl t2 o2 cz3
  exact ⟨⟨a0.1, a0.2.1, a0.2.2, a1.1, a1.2, a2⟩, ⟨q0.1, q0.2, q1, q2⟩, c0.next rfl (c1.next rfl (c2.last (by rw [hlen]; exact cz33)))⟩
instance : Inhabited ItI := ⟨⟨0, 0, [], [], 0, 0⟩⟩
def itsQ (l : List ItI) : Prop := l.length ≤ maxLen ∧ ∀ x ∈ l, itQ x 0
theorem rep_len2 {E : Env} {w : World} {sz : Nat} {es : List AV} {o : Own} {v : Value} (h : Rep E w (.sl sz es o) v) : es.length ≤ maxLen := by
  cases h with
  | sl _ _ _ A cap u hcap hmax => exact Nat.le_trans hcap hmax
theorem cells_len {sz : Nat} {es : List AV} {o : Own} {cs : List Value} (h : CellsAre W [.sl sz es o] cs) : es.length ≤ maxLen := by
  match cs, h with
  | [u], h => exact rep_len2 (h.2 0 _ u rfl rfl).1
  | [], h => cases h.1
theorem itsQ_ok {l : List ItI} (h : itsQ l) : l.length ≤ maxLen ∧ ∀ x ∈ l, itOk x := ⟨h.1, fun x hx => ⟨rng_ok (h.2 x hx).2.1, rng_ok (h.2 x hx).2.2.2⟩⟩
theorem rItems : ReadsAs PA W enc 25 (fun l : List ItI => [.sl 6 (itsL l) .no]) (fun l _ => itsQ l) := fun n cs x h => by
  obtain ⟨l, h1, h2⟩ := reads_slice (g := itA) Try.underlying25 cz33 (by omega) (fun _ => ⟨rfl, rfl⟩) rItem (fun _ _ _ h _ => h) n cs x h
  have hl := cells_len h2
  rw [List.length_map] at hl
  exact ⟨l, ⟨hl, h1.2⟩, h2⟩
/-! arguments -/
/-- an argument of one cell -/
theorem open_one {t : TypeId} {α : Type} {g : α → AV} {Q : α → Nat → Prop} (hr : ReadsAs PA W enc t (fun a => [g a]) Q) {v : Value} {d : DataW H} {ps : List MemPlace} (h1 : ∃ u, v.cells = #[u] ∧ v = u) (h : DataW.Trod enc PA W 0 (fun _ => true) true t v d ps) : ∃ a, Rep (oldE W) W (g a) v ∧ Q a (Rows.uptoBulk d) := by
  obtain ⟨u, hu, rfl⟩ := h1
  obtain ⟨fuel, h⟩ := h
  rw [hu] at h
  obtain ⟨a, q, c⟩ := hr fuel _ _ h
  exact ⟨a, (c.2 0 _ _ rfl rfl).1, q⟩
end
end Go.Abs

namespace Go.Abs
open Go.ChangeShapes Go.WideShapes Go.ChangeAt Go.RowKit Go.Deep Go.ChangeMaps
open Go.Proofs Go.Proofs.Ytdajfgkcpflacaa
section
variable {W : World}
theorem globI : GlobOk GA (oldE W) W := globA (fun g e hg => by cases hg) fun g e hg => by cases hg
end
theorem one_slice {P : Program} {W : World} {t e : TypeId} {v : Value} {b : Nat} (ht : P.underlying t = some (.slice e)) (h : Value.okWide P W .any b t v) : ∃ u, v.cells = #[u] ∧ v = u := by
  obtain ⟨A, n, c, rfl⟩ := okWide_slice ht h
  exact ⟨_, rfl, rfl⟩
theorem one_int {P : Program} {W : World} {t : TypeId} {k : IntKind} {v : Value} {b : Nat} (ht : P.underlying t = some (.int k)) (h : Value.okWide P W .any b t v) : ∃ u, v.cells = #[u] ∧ v = u := by
  obtain ⟨n, rfl⟩ := okWide_int ht h
  exact ⟨_, rfl, rfl⟩
theorem one_str {P : Program} {W : World} {t : TypeId} {v : Value} {b : Nat} (ht : P.underlying t = some .string) (h : Value.okWide P W .any b t v) : ∃ u, v.cells = #[u] ∧ v = u := by
  obtain ⟨n, rfl⟩ := okWide_string ht h
  exact ⟨_, rfl, rfl⟩
theorem witness_row_shaped {H : Type} {enc : TypeId × Value → H} {C : Checked} {os : Os} {f : FuncId} {fn : Func} {s : OpenSpec} {conds : List PathCond} {apart : Bool} {laid : List (String × DataW Unit)} (w0 : World) (args : Array Value) (hos : w0.os = os)
    (hsh : (w0.forCall (fun _ _ => 0) ⟨#[], args, []⟩).Shaped C.prog)
    (hok : Input.okWideB C.prog (w0.forCall (fun _ _ => 0) ⟨#[], args, []⟩) f ⟨#[], args, []⟩ = true)
    (hrow : s.preRow enc C.prog fn conds apart laid (w0.forCall (fun _ _ => 0) ⟨#[], args, []⟩).memory args) :
    ∃ (w : World) (tape : Tape) (i : Input), w.os = os ∧ (w.forCall tape i).Shaped C.prog ∧ i.vars = [] ∧ Input.okWide C.prog (w.forCall tape i) .any w.heap.size f i ∧
      s.preRow enc C.prog fn conds apart laid (w.forCall tape i).memory i.args ∧ ({} : Assume).holds C.prog (lone (Frame.enter C.prog f i.args .normal) [] (w.forCall tape i)) :=
  ⟨w0, fun _ _ => 0, ⟨#[], args, []⟩, hos, hsh, (Input.okWide_of_okWideB (base := 0) hok).1, (Input.okWide_of_okWideB hok).2, hrow, by
    simp only [Assume.holds]
    exact ⟨by simp, by simp, fun _ => Modest.zero, by simp, by simp⟩⟩

end Go.Abs
