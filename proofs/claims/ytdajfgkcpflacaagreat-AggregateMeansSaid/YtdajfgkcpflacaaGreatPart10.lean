/- Own texts, part 10. -/
import Derived.Test.YtdajfgkcpflacaaGreatPart9

namespace Go.Abs
open Go.Proofs Go.Proofs.K17 Go.Proofs.D17 Go.RowKit
theorem x6 (kind : Int) (l : List ItI) (r : AV) : (pureW PA GA XM RM (itbl []) (b6 kind l) [] 6 [.int .i64 kind, .sl 6 (itsL l) .no] (r, [])) =
(CallIs (some (AV.bool true, [])) (AV.bool true) [] ∧
  (true = true →
      ∃ (b : Bool),
        CallIs (RM 8 [.int .i64 kind, .sl 6 (itsL l) .no]) (AV.bool b) [] ∧
 (b = true →
 ∃ (n : Int) (n_1 : Int) (s : List UInt8),
 CallIs (RM 33 [.str [109, 105, 110], .int .i64 kind, .sl 6 (itsL l) .no])
 (AV.agg [.int .i64 n, .int .i64 n_1, .str s]) [] ∧
 ∃ (n_2 : Int) (n_3 : Int) (s_1 : List UInt8),
 CallIs
 (RM 33
 [.str [109, 97, 120], .int .i64 kind, .sl 6 (itsL l) .no])
 (AV.agg [.int .i64 n_2, .int .i64 n_3, .str s_1]) [] ∧
 ((∃ (y : Nat),
 ValsAre
 [.int .i64 kind, .sl 6 (itsL l) .no, .ptr 0 0,
 .ptr 1 0, .int .i64 0, .bool true, .int .i64 0,
 .int .i64 0, .int .i64 0, .int .i64 0]
 [.int .i64 kind, .sl 6 (itsL l) .no, .ptr 0 0,
 .ptr 1 0, .int .i64 (sumF (List.take y l)).fst, .bool (sumF (List.take y l)).snd,
 .int .i64 (↑(manyP l y) : Int), .int .i64 (↑(lowP (minB l) (List.take y l)) : Int),
 .int .i64 (↑(lowP (maxB l) (List.take y l)) : Int), .int .i64 (↑y : Int)] ∧
 StIs
 { boxes := [some [.int .i64 n, .int .i64 n_1, .str s], some [.int .i64 n_2, .int .i64 n_3, .str s_1]], live := [] }
 { boxes := [some [.int .i64 (minB l).k, .int .i64 (minB l).n, .str (minB l).s], some [.int .i64 (maxB l).k, .int .i64 (maxB l).n, .str (maxB l).s]], live := [] } ∧
 y ≤ l.length ∧ True) ∧
 ∀ (x : Nat),
 x ≤ l.length →
 (decide ((↑x : Int) < (↑(itsL l).length : Int)) = true →
 ((0 : Int) ≤ (↑x : Int) ∧ (↑x : Int) < (↑(itsL l).length : Int)) ∧
 ∃ (n : Int) (n_4 : Int) (s : List UInt8),
 takeAt PA 26 (itsL l) (↑x : Int).toNat 0 =
 some (AV.agg [.int .i64 n, .int .i64 n_4, .str s]) ∧
 (∃ (n_5 : Int) (b : Bool),
 CallIs
 (some
 (AV.tup
 [.int .i64 (addD (sumF (List.take x l)).fst n_4).fst,
 .bool (addD (sumF (List.take x l)).fst n_4).snd],
 []))
 (AV.tup [.int .i64 n_5, .bool b]) [] ∧
 (b = true →
 ∃ (y : KM),
 ValsAre
 [.int .i64 kind, .sl 6 (itsL l) .no,
 .ptr 0 0, .ptr 1 0,
 .int .i64 (sumF (List.take x l)).fst, .bool (sumF (List.take x l)).snd,
 .int .i64 (↑(manyP l x) : Int),
 .int .i64 (↑(lowP (minB l) (List.take x l)) : Int),
 .int .i64 (↑(lowP (maxB l) (List.take x l)) : Int),
 .int .i64 (↑x : Int), .ptr 2 0, .int .i64 n_5,
 .bool true]
 [.int .i64 kind, .sl 6 (itsL l) .no,
 .ptr 0 0, .ptr 1 0,
 .int .i64 (sumF (List.take y.i l)).fst, .bool (sumF (List.take y.i l)).snd,
 .int .i64 (↑(manyP l y.i) : Int),
 .int .i64 (↑(lowP (minB l) (List.take y.i l)) : Int),
 .int .i64 (↑(lowP (maxB l) (List.take y.i l)) : Int),
 .int .i64 (↑y.i : Int), .ptr 2 0,
 .int .i64 (addD (sumF (List.take y.i l)).fst y.x.n).fst,
 .bool (addD (sumF (List.take y.i l)).fst y.x.n).snd] ∧
 StIs
 { boxes := [some [.int .i64 (minB l).k, .int .i64 (minB l).n, .str (minB l).s], some [.int .i64 (maxB l).k, .int .i64 (maxB l).n, .str (maxB l).s], some [.int .i64 n, .int .i64 n_4, .str s]], live := [] }
 { boxes := [some [.int .i64 (minB l).k, .int .i64 (minB l).n, .str (minB l).s], some [.int .i64 (maxB l).k, .int .i64 (maxB l).n, .str (maxB l).s], some [.int .i64 y.x.k, .int .i64 y.x.n, .str y.x.s]], live := [] } ∧
 l[y.i]? = some y.x ∧
 some (AV.int IntKind.i64 (↑x : Int)) = some (AV.int IntKind.i64 (↑y.i : Int))) ∧
 (b = false →
 ∃ (y : KM),
 ValsAre
 [.int .i64 kind, .sl 6 (itsL l) .no,
 .ptr 0 0, .ptr 1 0,
 .int .i64 (sumF (List.take x l)).fst, .bool (sumF (List.take x l)).snd,
 .int .i64 (↑(manyP l x) : Int),
 .int .i64 (↑(lowP (minB l) (List.take x l)) : Int),
 .int .i64 (↑(lowP (maxB l) (List.take x l)) : Int),
 .int .i64 (↑x : Int), .ptr 2 0, .int .i64 n_5,
 .bool false]
 [.int .i64 kind, .sl 6 (itsL l) .no,
 .ptr 0 0, .ptr 1 0,
 .int .i64 (sumF (List.take y.i l)).fst, .bool (sumF (List.take y.i l)).snd,
 .int .i64 (↑(manyP l y.i) : Int),
 .int .i64 (↑(lowP (minB l) (List.take y.i l)) : Int),
 .int .i64 (↑(lowP (maxB l) (List.take y.i l)) : Int),
 .int .i64 (↑y.i : Int), .ptr 2 0,
 .int .i64 (addD (sumF (List.take y.i l)).fst y.x.n).fst,
 .bool (addD (sumF (List.take y.i l)).fst y.x.n).snd] ∧
 StIs
 { boxes := [some [.int .i64 (minB l).k, .int .i64 (minB l).n, .str (minB l).s], some [.int .i64 (maxB l).k, .int .i64 (maxB l).n, .str (maxB l).s], some [.int .i64 n, .int .i64 n_4, .str s]], live := [] }
 { boxes := [some [.int .i64 (minB l).k, .int .i64 (minB l).n, .str (minB l).s], some [.int .i64 (maxB l).k, .int .i64 (maxB l).n, .str (maxB l).s], some [.int .i64 y.x.k, .int .i64 y.x.n, .str y.x.s]], live := [] } ∧
 l[y.i]? = some y.x ∧
 some (AV.int IntKind.i64 (↑x : Int)) = some (AV.int IntKind.i64 (↑y.i : Int)))) ∧
 ∀ (x_1 : KM),
 l[x_1.i]? = some x_1.x →
 some (AV.int IntKind.i64 (↑x : Int)) = some (AV.int IntKind.i64 (↑x_1.i : Int)) →
 ((sumF (List.take x_1.i l)).snd = true →
 (∃ (y : KM),
 ValsAre
 [.int .i64 kind, .sl 6 (itsL l) .no,
 .ptr 0 0, .ptr 1 0,
 .int .i64 (addD (sumF (List.take x_1.i l)).fst x_1.x.n).fst,
 .bool (addD (sumF (List.take x_1.i l)).fst x_1.x.n).snd,
 .int .i64 (↑(manyP l x_1.i) : Int),
 .int .i64 (↑(lowP (minB l) (List.take x_1.i l)) : Int),
 .int .i64 (↑(lowP (maxB l) (List.take x_1.i l)) : Int),
 .int .i64 (↑x_1.i : Int), .ptr 2 0, .bool false,
 .int .i64 0]
 [.int .i64 kind, .sl 6 (itsL l) .no,
 .ptr 0 0, .ptr 1 0,
 .int .i64 (sumF (List.take (y.i + (1 : Nat)) l)).fst,
 .bool (sumF (List.take (y.i + (1 : Nat)) l)).snd,
 .int .i64 (↑(manyP l y.i) : Int),
 .int .i64 (↑(lowP (minB l) (List.take y.i l)) : Int),
 .int .i64 (↑(lowP (maxB l) (List.take y.i l)) : Int),
 .int .i64 (↑y.i : Int), .ptr 2 0,
 .bool (metP (List.take y.k l) y.x), .int .i64 (↑y.k : Int)] ∧
 StIs
 { boxes := [some [.int .i64 (minB l).k, .int .i64 (minB l).n, .str (minB l).s], some [.int .i64 (maxB l).k, .int .i64 (maxB l).n, .str (maxB l).s], some [.int .i64 x_1.x.k, .int .i64 x_1.x.n, .str x_1.x.s]], live := [] }
 { boxes := [some [.int .i64 (minB l).k, .int .i64 (minB l).n, .str (minB l).s], some [.int .i64 (maxB l).k, .int .i64 (maxB l).n, .str (maxB l).s], some [.int .i64 y.x.k, .int .i64 y.x.n, .str y.x.s]], live := [] } ∧
 (l[y.i]? = some y.x ∧ y.k ≤ y.i) ∧
 some (AV.int IntKind.i64 (↑x_1.i : Int)) = some (AV.int IntKind.i64 (↑y.i : Int))) ∧
 ∀ (x_2 : KM),
 l[x_2.i]? = some x_2.x ∧ x_2.k ≤ x_2.i →
 some (AV.int IntKind.i64 (↑x_1.i : Int)) = some (AV.int IntKind.i64 (↑x_2.i : Int)) →
 (metP (List.take x_2.k l) x_2.x = true →
 (decide ((↑x_2.k : Int) < (↑x_2.i : Int)) = true →
 ∃ (y : KM),
 ValsAre
 [.int .i64 kind, .sl 6 (itsL l) .no,
 .ptr 0 0, .ptr 1 0,
 .int .i64 (sumF (List.take (x_2.i + (1 : Nat)) l)).fst,
 .bool (sumF (List.take (x_2.i + (1 : Nat)) l)).snd,
 .int .i64 (↑(manyP l x_2.i) : Int),
 .int .i64 (↑(lowP (minB l) (List.take x_2.i l)) : Int),
 .int .i64 (↑(lowP (maxB l) (List.take x_2.i l)) : Int),
 .int .i64 (↑x_2.i : Int), .ptr 2 0,
 .bool true,
 .int .i64 (IntKind.i64.wrap ((↑x_2.k : Int) + (1 : Int)))]
 [.int .i64 kind, .sl 6 (itsL l) .no,
 .ptr 0 0, .ptr 1 0,
 .int .i64 (sumF (List.take (y.i + (1 : Nat)) l)).fst,
 .bool (sumF (List.take (y.i + (1 : Nat)) l)).snd,
 .int .i64 (↑(manyP l y.i) : Int),
 .int .i64 (↑(lowP (minB l) (List.take y.i l)) : Int),
 .int .i64 (↑(lowP (maxB l) (List.take y.i l)) : Int),
 .int .i64 (↑y.i : Int), .ptr 2 0,
 .bool (metP (List.take y.k l) y.x), .int .i64 (↑y.k : Int)] ∧
 StIs
 { boxes := [some [.int .i64 (minB l).k, .int .i64 (minB l).n, .str (minB l).s], some [.int .i64 (maxB l).k, .int .i64 (maxB l).n, .str (maxB l).s], some [.int .i64 x_2.x.k, .int .i64 x_2.x.n, .str x_2.x.s]], live := [] }
 { boxes := [some [.int .i64 (minB l).k, .int .i64 (minB l).n, .str (minB l).s], some [.int .i64 (maxB l).k, .int .i64 (maxB l).n, .str (maxB l).s], some [.int .i64 y.x.k, .int .i64 y.x.n, .str y.x.s]], live := [] } ∧
 (l[y.i]? = some y.x ∧ y.k ≤ y.i) ∧
 some (AV.int IntKind.i64 (↑x_1.i : Int)) =
 some (AV.int IntKind.i64 (↑y.i : Int)) ∧
 y.i - y.k < x_2.i - x_2.k) ∧
 (decide ((↑x_2.k : Int) < (↑x_2.i : Int)) = false →
 (∃ (y : KM),
 ValsAre
 [.int .i64 kind, .sl 6 (itsL l) .no,
 .ptr 0 0, .ptr 1 0,
 .int .i64 (sumF (List.take (x_2.i + (1 : Nat)) l)).fst,
 .bool (sumF (List.take (x_2.i + (1 : Nat)) l)).snd,
 .int .i64 (↑(manyP l x_2.i) : Int),
 .int .i64 (↑(lowP (minB l) (List.take x_2.i l)) : Int),
 .int .i64 (↑(lowP (maxB l) (List.take x_2.i l)) : Int),
 .int .i64 (↑x_2.i : Int), .ptr 2 0]
 [.int .i64 kind, .sl 6 (itsL l) .no,
 .ptr 0 0, .ptr 1 0,
 .int .i64 (sumF (List.take (y.i + (1 : Nat)) l)).fst,
 .bool (sumF (List.take (y.i + (1 : Nat)) l)).snd,
 .int .i64 (↑(manyP l (y.i + (1 : Nat))) : Int),
 .int .i64 (↑(lowP (minB l) (List.take y.i l)) : Int),
 .int .i64 (↑(lowP (maxB l) (List.take y.i l)) : Int),
 .int .i64 (↑y.i : Int), .ptr 2 0] ∧
 StIs
 { boxes := [some [.int .i64 (minB l).k, .int .i64 (minB l).n, .str (minB l).s], some [.int .i64 (maxB l).k, .int .i64 (maxB l).n, .str (maxB l).s], some [.int .i64 x_2.x.k, .int .i64 x_2.x.n, .str x_2.x.s]], live := [] }
 { boxes := [some [.int .i64 (minB l).k, .int .i64 (minB l).n, .str (minB l).s], some [.int .i64 (maxB l).k, .int .i64 (maxB l).n, .str (maxB l).s], some [.int .i64 y.x.k, .int .i64 y.x.n, .str y.x.s]], live := [] } ∧
 l[y.i]? = some y.x ∧
 some (AV.int IntKind.i64 (↑x_2.i : Int)) =
 some (AV.int IntKind.i64 (↑y.i : Int))) ∧
 ∀ (x_3 : KM),
 l[x_3.i]? = some x_3.x →
 some (AV.int IntKind.i64 (↑x_2.i : Int)) =
 some (AV.int IntKind.i64 (↑x_3.i : Int)) →
 ∃ (n : Int),
 CallIs
 (some
 (AV.int IntKind.i64
 (cmpV x_3.x.k x_3.x.n x_3.x.s (minB l).k (minB l).n
 (minB l).s),
 []))
 (AV.int IntKind.i64 n) [] ∧
 (decide (n < (0 : Int)) = true → RetIs (AV.bool false) [] (r, [])) ∧
 (decide (n < (0 : Int)) = false →
 ∃ (n : Int),
 CallIs
 (some
 (AV.int IntKind.i64
 (cmpV x_3.x.k x_3.x.n x_3.x.s (maxB l).k (maxB l).n
 (maxB l).s),
 []))
 (AV.int IntKind.i64 n) [] ∧
 (decide (n > (0 : Int)) = true →
 RetIs (AV.bool false) [] (r, [])) ∧
 (decide (n > (0 : Int)) = false →
 (((x_3.x.k == (minB l).k &&
 (x_3.x.n == (minB l).n &&
 (x_3.x.s == (minB l).s && true))) =
 true →
 ∃ (y : KM),
 ValsAre
 [.int .i64 kind,
 .sl 6 (itsL l) .no,
 .ptr 0 0,
 .ptr 1 0,
 .int .i64
 (sumF
 (List.take (x_3.i + (1 : Nat))
 l)).fst,
 .bool
 (sumF
 (List.take (x_3.i + (1 : Nat))
 l)).snd,
 .int .i64
 (↑(manyP l (x_3.i + (1 : Nat))) : Int),
 .int .i64
 (IntKind.i64.wrap
 ((↑(lowP (minB l)
 (List.take x_3.i l)) :
 Int) +
 (1 : Int))),
 .int .i64
 (↑(lowP (maxB l) (List.take x_3.i l)) :
 Int),
 .int .i64 (↑x_3.i : Int),
 .ptr 2 0]
 [.int .i64 kind,
 .sl 6 (itsL l) .no,
 .ptr 0 0,
 .ptr 1 0,
 .int .i64
 (sumF
 (List.take (y.i + (1 : Nat))
 l)).fst,
 .bool
 (sumF
 (List.take (y.i + (1 : Nat))
 l)).snd,
 .int .i64
 (↑(manyP l (y.i + (1 : Nat))) : Int),
 .int .i64
 (↑(lowP (minB l)
 (List.take (y.i + (1 : Nat)) l)) :
 Int),
 .int .i64
 (↑(lowP (maxB l) (List.take y.i l)) :
 Int),
 .int .i64 (↑y.i : Int),
 .ptr 2 0] ∧
 StIs
 { boxes := [some [.int .i64 (minB l).k, .int .i64 (minB l).n, .str (minB l).s], some [.int .i64 (maxB l).k, .int .i64 (maxB l).n, .str (maxB l).s], some [.int .i64 x_3.x.k, .int .i64 x_3.x.n, .str x_3.x.s]], live := [] }
 { boxes := [some [.int .i64 (minB l).k, .int .i64 (minB l).n, .str (minB l).s], some [.int .i64 (maxB l).k, .int .i64 (maxB l).n, .str (maxB l).s], some [.int .i64 y.x.k, .int .i64 y.x.n, .str y.x.s]], live := [] } ∧
 l[y.i]? = some y.x ∧
 some (AV.int IntKind.i64 (↑x_3.i : Int)) =
 some
 (AV.int IntKind.i64 (↑y.i : Int))) ∧
 ((x_3.x.k == (minB l).k &&
 (x_3.x.n == (minB l).n &&
 (x_3.x.s == (minB l).s && true))) =
 false →
 ∃ (y : KM),
 ValsAre
 [.int .i64 kind,
 .sl 6 (itsL l) .no,
 .ptr 0 0,
 .ptr 1 0,
 .int .i64
 (sumF
 (List.take (x_3.i + (1 : Nat))
 l)).fst,
 .bool
 (sumF
 (List.take (x_3.i + (1 : Nat))
 l)).snd,
 .int .i64
 (↑(manyP l (x_3.i + (1 : Nat))) : Int),
 .int .i64
 (↑(lowP (minB l) (List.take x_3.i l)) :
 Int),
 .int .i64
 (↑(lowP (maxB l) (List.take x_3.i l)) :
 Int),
 .int .i64 (↑x_3.i : Int),
 .ptr 2 0]
 [.int .i64 kind,
 .sl 6 (itsL l) .no,
 .ptr 0 0,
 .ptr 1 0,
 .int .i64
 (sumF
 (List.take (y.i + (1 : Nat))
 l)).fst,
 .bool
 (sumF
 (List.take (y.i + (1 : Nat))
 l)).snd,
 .int .i64
 (↑(manyP l (y.i + (1 : Nat))) : Int),
 .int .i64
 (↑(lowP (minB l)
 (List.take (y.i + (1 : Nat)) l)) :
 Int),
 .int .i64
 (↑(lowP (maxB l) (List.take y.i l)) :
 Int),
 .int .i64 (↑y.i : Int),
 .ptr 2 0] ∧
 StIs
 { boxes := [some [.int .i64 (minB l).k, .int .i64 (minB l).n, .str (minB l).s], some [.int .i64 (maxB l).k, .int .i64 (maxB l).n, .str (maxB l).s], some [.int .i64 x_3.x.k, .int .i64 x_3.x.n, .str x_3.x.s]], live := [] }
 { boxes := [some [.int .i64 (minB l).k, .int .i64 (minB l).n, .str (minB l).s], some [.int .i64 (maxB l).k, .int .i64 (maxB l).n, .str (maxB l).s], some [.int .i64 y.x.k, .int .i64 y.x.n, .str y.x.s]], live := [] } ∧
 l[y.i]? = some y.x ∧
 some (AV.int IntKind.i64 (↑x_3.i : Int)) =
 some
 (AV.int IntKind.i64 (↑y.i : Int)))) ∧
 ∀ (x_4 : KM),
 l[x_4.i]? = some x_4.x →
 some (AV.int IntKind.i64 (↑x_3.i : Int)) =
 some (AV.int IntKind.i64 (↑x_4.i : Int)) →
 ((x_4.x.k == (maxB l).k &&
 (x_4.x.n == (maxB l).n &&
 (x_4.x.s == (maxB l).s && true))) =
 true →
 ∃ (y : Nat),
 ValsAre
 [.int .i64 kind,
 .sl 6 (itsL l) .no,
 .ptr 0 0,
 .ptr 1 0,
 .int .i64
 (sumF
 (List.take (x_4.i + (1 : Nat))
 l)).fst,
 .bool
 (sumF
 (List.take (x_4.i + (1 : Nat))
 l)).snd,
 .int .i64
 (↑(manyP l (x_4.i + (1 : Nat))) :
 Int),
 .int .i64
 (↑(lowP (minB l)
 (List.take
 (x_4.i + (1 : Nat)) l)) :
 Int),
 .int .i64
 (IntKind.i64.wrap
 ((↑(lowP (maxB l)
 (List.take x_4.i l)) :
 Int) +
 (1 : Int))),
 .int .i64
 (IntKind.i64.wrap
 ((↑x_4.i : Int) + (1 : Int)))]
 [.int .i64 kind,
 .sl 6 (itsL l) .no,
 .ptr 0 0,
 .ptr 1 0,
 .int .i64
 (sumF (List.take y l)).fst,
 .bool (sumF (List.take y l)).snd,
 .int .i64
 (↑(manyP l y) : Int),
 .int .i64
 (↑(lowP (minB l)
 (List.take y l)) :
 Int),
 .int .i64
 (↑(lowP (maxB l)
 (List.take y l)) :
 Int),
 .int .i64 (↑y : Int)] ∧
 StIs
 { boxes := [some [.int .i64 (minB l).k, .int .i64 (minB l).n, .str (minB l).s], some [.int .i64 (maxB l).k, .int .i64 (maxB l).n, .str (maxB l).s]], live := [] }
 { boxes := [some [.int .i64 (minB l).k, .int .i64 (minB l).n, .str (minB l).s], some [.int .i64 (maxB l).k, .int .i64 (maxB l).n, .str (maxB l).s]], live := [] } ∧
 y ≤ l.length ∧
 l.length - y < l.length - x) ∧
 ((x_4.x.k == (maxB l).k &&
 (x_4.x.n == (maxB l).n &&
 (x_4.x.s == (maxB l).s && true))) =
 false →
 ∃ (y : Nat),
 ValsAre
 [.int .i64 kind,
 .sl 6 (itsL l) .no,
 .ptr 0 0,
 .ptr 1 0,
 .int .i64
 (sumF
 (List.take (x_4.i + (1 : Nat))
 l)).fst,
 .bool
 (sumF
 (List.take (x_4.i + (1 : Nat))
 l)).snd,
 .int .i64
 (↑(manyP l (x_4.i + (1 : Nat))) :
 Int),
 .int .i64
 (↑(lowP (minB l)
 (List.take
 (x_4.i + (1 : Nat)) l)) :
 Int),
 .int .i64
 (↑(lowP (maxB l)
 (List.take x_4.i l)) :
 Int),
 .int .i64
 (IntKind.i64.wrap
 ((↑x_4.i : Int) + (1 : Int)))]
 [.int .i64 kind,
 .sl 6 (itsL l) .no,
 .ptr 0 0,
 .ptr 1 0,
 .int .i64
 (sumF (List.take y l)).fst,
 .bool (sumF (List.take y l)).snd,
 .int .i64
 (↑(manyP l y) : Int),
 .int .i64
 (↑(lowP (minB l)
 (List.take y l)) :
 Int),
 .int .i64
 (↑(lowP (maxB l)
 (List.take y l)) :
 Int),
 .int .i64 (↑y : Int)] ∧
 StIs
 { boxes := [some [.int .i64 (minB l).k, .int .i64 (minB l).n, .str (minB l).s], some [.int .i64 (maxB l).k, .int .i64 (maxB l).n, .str (maxB l).s]], live := [] }
 { boxes := [some [.int .i64 (minB l).k, .int .i64 (minB l).n, .str (minB l).s], some [.int .i64 (maxB l).k, .int .i64 (maxB l).n, .str (maxB l).s]], live := [] } ∧
 y ≤ l.length ∧
 l.length - y < l.length - x))))) ∧
 (metP (List.take x_2.k l) x_2.x = false →
 (decide ((↑x_2.k : Int) < (↑x_2.i : Int)) = true →
 ((0 : Int) ≤ (↑x_2.k : Int) ∧ (↑x_2.k : Int) < (↑(itsL l).length : Int)) ∧
 ∃ (n : Int) (n_5 : Int) (s : List UInt8),
 takeAt PA 26 (itsL l) (↑x_2.k : Int).toNat 0 =
 some
 (AV.agg
 [.int .i64 n, .int .i64 n_5, .str s]) ∧
 ((n == x_2.x.k && (n_5 == x_2.x.n && (s == x_2.x.s && true))) = true →
 ∃ (y : KM),
 ValsAre
 [.int .i64 kind, .sl 6 (itsL l) .no,
 .ptr 0 0,
 .ptr 1 0,
 .int .i64
 (sumF (List.take (x_2.i + (1 : Nat)) l)).fst,
 .bool (sumF (List.take (x_2.i + (1 : Nat)) l)).snd,
 .int .i64 (↑(manyP l x_2.i) : Int),
 .int .i64
 (↑(lowP (minB l) (List.take x_2.i l)) : Int),
 .int .i64
 (↑(lowP (maxB l) (List.take x_2.i l)) : Int),
 .int .i64 (↑x_2.i : Int),
 .ptr 2 0, .bool true,
 .int .i64
 (IntKind.i64.wrap ((↑x_2.k : Int) + (1 : Int)))]
 [.int .i64 kind, .sl 6 (itsL l) .no,
 .ptr 0 0,
 .ptr 1 0,
 .int .i64
 (sumF (List.take (y.i + (1 : Nat)) l)).fst,
 .bool (sumF (List.take (y.i + (1 : Nat)) l)).snd,
 .int .i64 (↑(manyP l y.i) : Int),
 .int .i64
 (↑(lowP (minB l) (List.take y.i l)) : Int),
 .int .i64
 (↑(lowP (maxB l) (List.take y.i l)) : Int),
 .int .i64 (↑y.i : Int),
 .ptr 2 0,
 .bool (metP (List.take y.k l) y.x),
 .int .i64 (↑y.k : Int)] ∧
 StIs
 { boxes := [some [.int .i64 (minB l).k, .int .i64 (minB l).n, .str (minB l).s], some [.int .i64 (maxB l).k, .int .i64 (maxB l).n, .str (maxB l).s], some [.int .i64 x_2.x.k, .int .i64 x_2.x.n, .str x_2.x.s]], live := [] }
 { boxes := [some [.int .i64 (minB l).k, .int .i64 (minB l).n, .str (minB l).s], some [.int .i64 (maxB l).k, .int .i64 (maxB l).n, .str (maxB l).s], some [.int .i64 y.x.k, .int .i64 y.x.n, .str y.x.s]], live := [] } ∧
 (l[y.i]? = some y.x ∧ y.k ≤ y.i) ∧
 some (AV.int IntKind.i64 (↑x_1.i : Int)) =
 some (AV.int IntKind.i64 (↑y.i : Int)) ∧
 y.i - y.k < x_2.i - x_2.k) ∧
 ((n == x_2.x.k && (n_5 == x_2.x.n && (s == x_2.x.s && true))) =
 false →
 ∃ (y : KM),
 ValsAre
 [.int .i64 kind, .sl 6 (itsL l) .no,
 .ptr 0 0,
 .ptr 1 0,
 .int .i64
 (sumF (List.take (x_2.i + (1 : Nat)) l)).fst,
 .bool (sumF (List.take (x_2.i + (1 : Nat)) l)).snd,
 .int .i64 (↑(manyP l x_2.i) : Int),
 .int .i64
 (↑(lowP (minB l) (List.take x_2.i l)) : Int),
 .int .i64
 (↑(lowP (maxB l) (List.take x_2.i l)) : Int),
 .int .i64 (↑x_2.i : Int),
 .ptr 2 0, .bool false,
 .int .i64
 (IntKind.i64.wrap ((↑x_2.k : Int) + (1 : Int)))]
 [.int .i64 kind, .sl 6 (itsL l) .no,
 .ptr 0 0,
 .ptr 1 0,
 .int .i64
 (sumF (List.take (y.i + (1 : Nat)) l)).fst,
 .bool (sumF (List.take (y.i + (1 : Nat)) l)).snd,
 .int .i64 (↑(manyP l y.i) : Int),
 .int .i64
 (↑(lowP (minB l) (List.take y.i l)) : Int),
 .int .i64
 (↑(lowP (maxB l) (List.take y.i l)) : Int),
 .int .i64 (↑y.i : Int),
 .ptr 2 0,
 .bool (metP (List.take y.k l) y.x),
 .int .i64 (↑y.k : Int)] ∧
 StIs
 { boxes := [some [.int .i64 (minB l).k, .int .i64 (minB l).n, .str (minB l).s], some [.int .i64 (maxB l).k, .int .i64 (maxB l).n, .str (maxB l).s], some [.int .i64 x_2.x.k, .int .i64 x_2.x.n, .str x_2.x.s]], live := [] }
 { boxes := [some [.int .i64 (minB l).k, .int .i64 (minB l).n, .str (minB l).s], some [.int .i64 (maxB l).k, .int .i64 (maxB l).n, .str (maxB l).s], some [.int .i64 y.x.k, .int .i64 y.x.n, .str y.x.s]], live := [] } ∧
 (l[y.i]? = some y.x ∧ y.k ≤ y.i) ∧
 some (AV.int IntKind.i64 (↑x_1.i : Int)) =
 some (AV.int IntKind.i64 (↑y.i : Int)) ∧
 y.i - y.k < x_2.i - x_2.k)) ∧
 (decide ((↑x_2.k : Int) < (↑x_2.i : Int)) = false →
 (∃ (y : KM),
 ValsAre
 [.int .i64 kind, .sl 6 (itsL l) .no,
 .ptr 0 0, .ptr 1 0,
 .int .i64 (sumF (List.take (x_2.i + (1 : Nat)) l)).fst,
 .bool (sumF (List.take (x_2.i + (1 : Nat)) l)).snd,
 .int .i64
 (IntKind.i64.wrap ((↑(manyP l x_2.i) : Int) + (1 : Int))),
 .int .i64 (↑(lowP (minB l) (List.take x_2.i l)) : Int),
 .int .i64 (↑(lowP (maxB l) (List.take x_2.i l)) : Int),
 .int .i64 (↑x_2.i : Int), .ptr 2 0]
 [.int .i64 kind, .sl 6 (itsL l) .no,
 .ptr 0 0, .ptr 1 0,
 .int .i64 (sumF (List.take (y.i + (1 : Nat)) l)).fst,
 .bool (sumF (List.take (y.i + (1 : Nat)) l)).snd,
 .int .i64 (↑(manyP l (y.i + (1 : Nat))) : Int),
 .int .i64 (↑(lowP (minB l) (List.take y.i l)) : Int),
 .int .i64 (↑(lowP (maxB l) (List.take y.i l)) : Int),
 .int .i64 (↑y.i : Int), .ptr 2 0] ∧
 StIs
 { boxes := [some [.int .i64 (minB l).k, .int .i64 (minB l).n, .str (minB l).s], some [.int .i64 (maxB l).k, .int .i64 (maxB l).n, .str (maxB l).s], some [.int .i64 x_2.x.k, .int .i64 x_2.x.n, .str x_2.x.s]], live := [] }
 { boxes := [some [.int .i64 (minB l).k, .int .i64 (minB l).n, .str (minB l).s], some [.int .i64 (maxB l).k, .int .i64 (maxB l).n, .str (maxB l).s], some [.int .i64 y.x.k, .int .i64 y.x.n, .str y.x.s]], live := [] } ∧
 l[y.i]? = some y.x ∧
 some (AV.int IntKind.i64 (↑x_2.i : Int)) =
 some (AV.int IntKind.i64 (↑y.i : Int))) ∧
 ∀ (x_3 : KM),
 l[x_3.i]? = some x_3.x →
 some (AV.int IntKind.i64 (↑x_2.i : Int)) =
 some (AV.int IntKind.i64 (↑x_3.i : Int)) →
 ∃ (n : Int),
 CallIs
 (some
 (AV.int IntKind.i64
 (cmpV x_3.x.k x_3.x.n x_3.x.s (minB l).k (minB l).n
 (minB l).s),
 []))
 (AV.int IntKind.i64 n) [] ∧
 (decide (n < (0 : Int)) = true → RetIs (AV.bool false) [] (r, [])) ∧
 (decide (n < (0 : Int)) = false →
 ∃ (n : Int),
 CallIs
 (some
 (AV.int IntKind.i64
 (cmpV x_3.x.k x_3.x.n x_3.x.s (maxB l).k (maxB l).n
 (maxB l).s),
 []))
 (AV.int IntKind.i64 n) [] ∧
 (decide (n > (0 : Int)) = true →
 RetIs (AV.bool false) [] (r, [])) ∧
 (decide (n > (0 : Int)) = false →
 (((x_3.x.k == (minB l).k &&
 (x_3.x.n == (minB l).n &&
 (x_3.x.s == (minB l).s && true))) =
 true →
 ∃ (y : KM),
 ValsAre
 [.int .i64 kind,
 .sl 6 (itsL l) .no,
 .ptr 0 0,
 .ptr 1 0,
 .int .i64
 (sumF
 (List.take (x_3.i + (1 : Nat))
 l)).fst,
 .bool
 (sumF
 (List.take (x_3.i + (1 : Nat))
 l)).snd,
 .int .i64
 (↑(manyP l (x_3.i + (1 : Nat))) : Int),
 .int .i64
 (IntKind.i64.wrap
 ((↑(lowP (minB l)
 (List.take x_3.i l)) :
 Int) +
 (1 : Int))),
 .int .i64
 (↑(lowP (maxB l) (List.take x_3.i l)) :
 Int),
 .int .i64 (↑x_3.i : Int),
 .ptr 2 0]
 [.int .i64 kind,
 .sl 6 (itsL l) .no,
 .ptr 0 0,
 .ptr 1 0,
 .int .i64
 (sumF
 (List.take (y.i + (1 : Nat))
 l)).fst,
 .bool
 (sumF
 (List.take (y.i + (1 : Nat))
 l)).snd,
 .int .i64
 (↑(manyP l (y.i + (1 : Nat))) : Int),
 .int .i64
 (↑(lowP (minB l)
 (List.take (y.i + (1 : Nat)) l)) :
 Int),
 .int .i64
 (↑(lowP (maxB l) (List.take y.i l)) :
 Int),
 .int .i64 (↑y.i : Int),
 .ptr 2 0] ∧
 StIs
 { boxes := [some [.int .i64 (minB l).k, .int .i64 (minB l).n, .str (minB l).s], some [.int .i64 (maxB l).k, .int .i64 (maxB l).n, .str (maxB l).s], some [.int .i64 x_3.x.k, .int .i64 x_3.x.n, .str x_3.x.s]], live := [] }
 { boxes := [some [.int .i64 (minB l).k, .int .i64 (minB l).n, .str (minB l).s], some [.int .i64 (maxB l).k, .int .i64 (maxB l).n, .str (maxB l).s], some [.int .i64 y.x.k, .int .i64 y.x.n, .str y.x.s]], live := [] } ∧
 l[y.i]? = some y.x ∧
 some (AV.int IntKind.i64 (↑x_3.i : Int)) =
 some
 (AV.int IntKind.i64 (↑y.i : Int))) ∧
 ((x_3.x.k == (minB l).k &&
 (x_3.x.n == (minB l).n &&
 (x_3.x.s == (minB l).s && true))) =
 false →
 ∃ (y : KM),
 ValsAre
 [.int .i64 kind,
 .sl 6 (itsL l) .no,
 .ptr 0 0,
 .ptr 1 0,
 .int .i64
 (sumF
 (List.take (x_3.i + (1 : Nat))
 l)).fst,
 .bool
 (sumF
 (List.take (x_3.i + (1 : Nat))
 l)).snd,
 .int .i64
 (↑(manyP l (x_3.i + (1 : Nat))) : Int),
 .int .i64
 (↑(lowP (minB l) (List.take x_3.i l)) :
 Int),
 .int .i64
 (↑(lowP (maxB l) (List.take x_3.i l)) :
 Int),
 .int .i64 (↑x_3.i : Int),
 .ptr 2 0]
 [.int .i64 kind,
 .sl 6 (itsL l) .no,
 .ptr 0 0,
 .ptr 1 0,
 .int .i64
 (sumF
 (List.take (y.i + (1 : Nat))
 l)).fst,
 .bool
 (sumF
 (List.take (y.i + (1 : Nat))
 l)).snd,
 .int .i64
 (↑(manyP l (y.i + (1 : Nat))) : Int),
 .int .i64
 (↑(lowP (minB l)
 (List.take (y.i + (1 : Nat)) l)) :
 Int),
 .int .i64
 (↑(lowP (maxB l) (List.take y.i l)) :
 Int),
 .int .i64 (↑y.i : Int),
 .ptr 2 0] ∧
 StIs
 { boxes := [some [.int .i64 (minB l).k, .int .i64 (minB l).n, .str (minB l).s], some [.int .i64 (maxB l).k, .int .i64 (maxB l).n, .str (maxB l).s], some [.int .i64 x_3.x.k, .int .i64 x_3.x.n, .str x_3.x.s]], live := [] }
 { boxes := [some [.int .i64 (minB l).k, .int .i64 (minB l).n, .str (minB l).s], some [.int .i64 (maxB l).k, .int .i64 (maxB l).n, .str (maxB l).s], some [.int .i64 y.x.k, .int .i64 y.x.n, .str y.x.s]], live := [] } ∧
 l[y.i]? = some y.x ∧
 some (AV.int IntKind.i64 (↑x_3.i : Int)) =
 some
 (AV.int IntKind.i64 (↑y.i : Int)))) ∧
 ∀ (x_4 : KM),
 l[x_4.i]? = some x_4.x →
 some (AV.int IntKind.i64 (↑x_3.i : Int)) =
 some (AV.int IntKind.i64 (↑x_4.i : Int)) →
 ((x_4.x.k == (maxB l).k &&
 (x_4.x.n == (maxB l).n &&
 (x_4.x.s == (maxB l).s && true))) =
 true →
 ∃ (y : Nat),
 ValsAre
 [.int .i64 kind,
 .sl 6 (itsL l) .no,
 .ptr 0 0,
 .ptr 1 0,
 .int .i64
 (sumF
 (List.take (x_4.i + (1 : Nat))
 l)).fst,
 .bool
 (sumF
 (List.take (x_4.i + (1 : Nat))
 l)).snd,
 .int .i64
 (↑(manyP l (x_4.i + (1 : Nat))) :
 Int),
 .int .i64
 (↑(lowP (minB l)
 (List.take
 (x_4.i + (1 : Nat)) l)) :
 Int),
 .int .i64
 (IntKind.i64.wrap
 ((↑(lowP (maxB l)
 (List.take x_4.i l)) :
 Int) +
 (1 : Int))),
 .int .i64
 (IntKind.i64.wrap
 ((↑x_4.i : Int) + (1 : Int)))]
 [.int .i64 kind,
 .sl 6 (itsL l) .no,
 .ptr 0 0,
 .ptr 1 0,
 .int .i64
 (sumF (List.take y l)).fst,
 .bool (sumF (List.take y l)).snd,
 .int .i64
 (↑(manyP l y) : Int),
 .int .i64
 (↑(lowP (minB l)
 (List.take y l)) :
 Int),
 .int .i64
 (↑(lowP (maxB l)
 (List.take y l)) :
 Int),
 .int .i64 (↑y : Int)] ∧
 StIs
 { boxes := [some [.int .i64 (minB l).k, .int .i64 (minB l).n, .str (minB l).s], some [.int .i64 (maxB l).k, .int .i64 (maxB l).n, .str (maxB l).s]], live := [] }
 { boxes := [some [.int .i64 (minB l).k, .int .i64 (minB l).n, .str (minB l).s], some [.int .i64 (maxB l).k, .int .i64 (maxB l).n, .str (maxB l).s]], live := [] } ∧
 y ≤ l.length ∧
 l.length - y < l.length - x) ∧
 ((x_4.x.k == (maxB l).k &&
 (x_4.x.n == (maxB l).n &&
 (x_4.x.s == (maxB l).s && true))) =
 false →
 ∃ (y : Nat),
 ValsAre
 [.int .i64 kind,
 .sl 6 (itsL l) .no,
 .ptr 0 0,
 .ptr 1 0,
 .int .i64
 (sumF
 (List.take (x_4.i + (1 : Nat))
 l)).fst,
 .bool
 (sumF
 (List.take (x_4.i + (1 : Nat))
 l)).snd,
 .int .i64
 (↑(manyP l (x_4.i + (1 : Nat))) :
 Int),
 .int .i64
 (↑(lowP (minB l)
 (List.take
 (x_4.i + (1 : Nat)) l)) :
 Int),
 .int .i64
 (↑(lowP (maxB l)
 (List.take x_4.i l)) :
 Int),
 .int .i64
 (IntKind.i64.wrap
 ((↑x_4.i : Int) + (1 : Int)))]
 [.int .i64 kind,
 .sl 6 (itsL l) .no,
 .ptr 0 0,
 .ptr 1 0,
 .int .i64
 (sumF (List.take y l)).fst,
 .bool (sumF (List.take y l)).snd,
 .int .i64
 (↑(manyP l y) : Int),
 .int .i64
 (↑(lowP (minB l)
 (List.take y l)) :
 Int),
 .int .i64
 (↑(lowP (maxB l)
 (List.take y l)) :
 Int),
 .int .i64 (↑y : Int)] ∧
 StIs
 { boxes := [some [.int .i64 (minB l).k, .int .i64 (minB l).n, .str (minB l).s], some [.int .i64 (maxB l).k, .int .i64 (maxB l).n, .str (maxB l).s]], live := [] }
 { boxes := [some [.int .i64 (minB l).k, .int .i64 (minB l).n, .str (minB l).s], some [.int .i64 (maxB l).k, .int .i64 (maxB l).n, .str (maxB l).s]], live := [] } ∧
 y ≤ l.length ∧
 l.length - y < l.length - x)))))) ∧
 ((sumF (List.take x_1.i l)).snd = false →
 (∃ (y : KM),
 ValsAre
 [.int .i64 kind, .sl 6 (itsL l) .no,
 .ptr 0 0, .ptr 1 0,
 .int .i64 (addD (sumF (List.take x_1.i l)).fst x_1.x.n).fst, .bool false,
 .int .i64 (↑(manyP l x_1.i) : Int),
 .int .i64 (↑(lowP (minB l) (List.take x_1.i l)) : Int),
 .int .i64 (↑(lowP (maxB l) (List.take x_1.i l)) : Int),
 .int .i64 (↑x_1.i : Int), .ptr 2 0, .bool false,
 .int .i64 0]
 [.int .i64 kind, .sl 6 (itsL l) .no,
 .ptr 0 0, .ptr 1 0,
 .int .i64 (sumF (List.take (y.i + (1 : Nat)) l)).fst,
 .bool (sumF (List.take (y.i + (1 : Nat)) l)).snd,
 .int .i64 (↑(manyP l y.i) : Int),
 .int .i64 (↑(lowP (minB l) (List.take y.i l)) : Int),
 .int .i64 (↑(lowP (maxB l) (List.take y.i l)) : Int),
 .int .i64 (↑y.i : Int), .ptr 2 0,
 .bool (metP (List.take y.k l) y.x), .int .i64 (↑y.k : Int)] ∧
 StIs
 { boxes := [some [.int .i64 (minB l).k, .int .i64 (minB l).n, .str (minB l).s], some [.int .i64 (maxB l).k, .int .i64 (maxB l).n, .str (maxB l).s], some [.int .i64 x_1.x.k, .int .i64 x_1.x.n, .str x_1.x.s]], live := [] }
 { boxes := [some [.int .i64 (minB l).k, .int .i64 (minB l).n, .str (minB l).s], some [.int .i64 (maxB l).k, .int .i64 (maxB l).n, .str (maxB l).s], some [.int .i64 y.x.k, .int .i64 y.x.n, .str y.x.s]], live := [] } ∧
 (l[y.i]? = some y.x ∧ y.k ≤ y.i) ∧
 some (AV.int IntKind.i64 (↑x_1.i : Int)) = some (AV.int IntKind.i64 (↑y.i : Int))) ∧
 ∀ (x_2 : KM),
 l[x_2.i]? = some x_2.x ∧ x_2.k ≤ x_2.i →
 some (AV.int IntKind.i64 (↑x_1.i : Int)) = some (AV.int IntKind.i64 (↑x_2.i : Int)) →
 (metP (List.take x_2.k l) x_2.x = true →
 (decide ((↑x_2.k : Int) < (↑x_2.i : Int)) = true →
 ∃ (y : KM),
 ValsAre
 [.int .i64 kind, .sl 6 (itsL l) .no,
 .ptr 0 0, .ptr 1 0,
 .int .i64 (sumF (List.take (x_2.i + (1 : Nat)) l)).fst,
 .bool (sumF (List.take (x_2.i + (1 : Nat)) l)).snd,
 .int .i64 (↑(manyP l x_2.i) : Int),
 .int .i64 (↑(lowP (minB l) (List.take x_2.i l)) : Int),
 .int .i64 (↑(lowP (maxB l) (List.take x_2.i l)) : Int),
 .int .i64 (↑x_2.i : Int), .ptr 2 0,
 .bool true,
 .int .i64 (IntKind.i64.wrap ((↑x_2.k : Int) + (1 : Int)))]
 [.int .i64 kind, .sl 6 (itsL l) .no,
 .ptr 0 0, .ptr 1 0,
 .int .i64 (sumF (List.take (y.i + (1 : Nat)) l)).fst,
 .bool (sumF (List.take (y.i + (1 : Nat)) l)).snd,
 .int .i64 (↑(manyP l y.i) : Int),
 .int .i64 (↑(lowP (minB l) (List.take y.i l)) : Int),
 .int .i64 (↑(lowP (maxB l) (List.take y.i l)) : Int),
 .int .i64 (↑y.i : Int), .ptr 2 0,
 .bool (metP (List.take y.k l) y.x), .int .i64 (↑y.k : Int)] ∧
 StIs
 { boxes := [some [.int .i64 (minB l).k, .int .i64 (minB l).n, .str (minB l).s], some [.int .i64 (maxB l).k, .int .i64 (maxB l).n, .str (maxB l).s], some [.int .i64 x_2.x.k, .int .i64 x_2.x.n, .str x_2.x.s]], live := [] }
 { boxes := [some [.int .i64 (minB l).k, .int .i64 (minB l).n, .str (minB l).s], some [.int .i64 (maxB l).k, .int .i64 (maxB l).n, .str (maxB l).s], some [.int .i64 y.x.k, .int .i64 y.x.n, .str y.x.s]], live := [] } ∧
 (l[y.i]? = some y.x ∧ y.k ≤ y.i) ∧
 some (AV.int IntKind.i64 (↑x_1.i : Int)) =
 some (AV.int IntKind.i64 (↑y.i : Int)) ∧
 y.i - y.k < x_2.i - x_2.k) ∧
 (decide ((↑x_2.k : Int) < (↑x_2.i : Int)) = false →
 (∃ (y : KM),
 ValsAre
 [.int .i64 kind, .sl 6 (itsL l) .no,
 .ptr 0 0, .ptr 1 0,
 .int .i64 (sumF (List.take (x_2.i + (1 : Nat)) l)).fst,
 .bool (sumF (List.take (x_2.i + (1 : Nat)) l)).snd,
 .int .i64 (↑(manyP l x_2.i) : Int),
 .int .i64 (↑(lowP (minB l) (List.take x_2.i l)) : Int),
 .int .i64 (↑(lowP (maxB l) (List.take x_2.i l)) : Int),
 .int .i64 (↑x_2.i : Int), .ptr 2 0]
 [.int .i64 kind, .sl 6 (itsL l) .no,
 .ptr 0 0, .ptr 1 0,
 .int .i64 (sumF (List.take (y.i + (1 : Nat)) l)).fst,
 .bool (sumF (List.take (y.i + (1 : Nat)) l)).snd,
 .int .i64 (↑(manyP l (y.i + (1 : Nat))) : Int),
 .int .i64 (↑(lowP (minB l) (List.take y.i l)) : Int),
 .int .i64 (↑(lowP (maxB l) (List.take y.i l)) : Int),
 .int .i64 (↑y.i : Int), .ptr 2 0] ∧
 StIs
 { boxes := [some [.int .i64 (minB l).k, .int .i64 (minB l).n, .str (minB l).s], some [.int .i64 (maxB l).k, .int .i64 (maxB l).n, .str (maxB l).s], some [.int .i64 x_2.x.k, .int .i64 x_2.x.n, .str x_2.x.s]], live := [] }
 { boxes := [some [.int .i64 (minB l).k, .int .i64 (minB l).n, .str (minB l).s], some [.int .i64 (maxB l).k, .int .i64 (maxB l).n, .str (maxB l).s], some [.int .i64 y.x.k, .int .i64 y.x.n, .str y.x.s]], live := [] } ∧
 l[y.i]? = some y.x ∧
 some (AV.int IntKind.i64 (↑x_2.i : Int)) =
 some (AV.int IntKind.i64 (↑y.i : Int))) ∧
 ∀ (x_3 : KM),
 l[x_3.i]? = some x_3.x →
 some (AV.int IntKind.i64 (↑x_2.i : Int)) =
 some (AV.int IntKind.i64 (↑x_3.i : Int)) →
 ∃ (n : Int),
 CallIs
 (some
 (AV.int IntKind.i64
 (cmpV x_3.x.k x_3.x.n x_3.x.s (minB l).k (minB l).n
 (minB l).s),
 []))
 (AV.int IntKind.i64 n) [] ∧
 (decide (n < (0 : Int)) = true → RetIs (AV.bool false) [] (r, [])) ∧
 (decide (n < (0 : Int)) = false →
 ∃ (n : Int),
 CallIs
 (some
 (AV.int IntKind.i64
 (cmpV x_3.x.k x_3.x.n x_3.x.s (maxB l).k (maxB l).n
 (maxB l).s),
 []))
 (AV.int IntKind.i64 n) [] ∧
 (decide (n > (0 : Int)) = true →
 RetIs (AV.bool false) [] (r, [])) ∧
 (decide (n > (0 : Int)) = false →
 (((x_3.x.k == (minB l).k &&
 (x_3.x.n == (minB l).n &&
 (x_3.x.s == (minB l).s && true))) =
 true →
 ∃ (y : KM),
 ValsAre
 [.int .i64 kind,
 .sl 6 (itsL l) .no,
 .ptr 0 0,
 .ptr 1 0,
 .int .i64
 (sumF
 (List.take (x_3.i + (1 : Nat))
 l)).fst,
 .bool
 (sumF
 (List.take (x_3.i + (1 : Nat))
 l)).snd,
 .int .i64
 (↑(manyP l (x_3.i + (1 : Nat))) : Int),
 .int .i64
 (IntKind.i64.wrap
 ((↑(lowP (minB l)
 (List.take x_3.i l)) :
 Int) +
 (1 : Int))),
 .int .i64
 (↑(lowP (maxB l) (List.take x_3.i l)) :
 Int),
 .int .i64 (↑x_3.i : Int),
 .ptr 2 0]
 [.int .i64 kind,
 .sl 6 (itsL l) .no,
 .ptr 0 0,
 .ptr 1 0,
 .int .i64
 (sumF
 (List.take (y.i + (1 : Nat))
 l)).fst,
 .bool
 (sumF
 (List.take (y.i + (1 : Nat))
 l)).snd,
 .int .i64
 (↑(manyP l (y.i + (1 : Nat))) : Int),
 .int .i64
 (↑(lowP (minB l)
 (List.take (y.i + (1 : Nat)) l)) :
 Int),
 .int .i64
 (↑(lowP (maxB l) (List.take y.i l)) :
 Int),
 .int .i64 (↑y.i : Int),
 .ptr 2 0] ∧
 StIs
 { boxes := [some [.int .i64 (minB l).k, .int .i64 (minB l).n, .str (minB l).s], some [.int .i64 (maxB l).k, .int .i64 (maxB l).n, .str (maxB l).s], some [.int .i64 x_3.x.k, .int .i64 x_3.x.n, .str x_3.x.s]], live := [] }
 { boxes := [some [.int .i64 (minB l).k, .int .i64 (minB l).n, .str (minB l).s], some [.int .i64 (maxB l).k, .int .i64 (maxB l).n, .str (maxB l).s], some [.int .i64 y.x.k, .int .i64 y.x.n, .str y.x.s]], live := [] } ∧
 l[y.i]? = some y.x ∧
 some (AV.int IntKind.i64 (↑x_3.i : Int)) =
 some
 (AV.int IntKind.i64 (↑y.i : Int))) ∧
 ((x_3.x.k == (minB l).k &&
 (x_3.x.n == (minB l).n &&
 (x_3.x.s == (minB l).s && true))) =
 false →
 ∃ (y : KM),
 ValsAre
 [.int .i64 kind,
 .sl 6 (itsL l) .no,
 .ptr 0 0,
 .ptr 1 0,
 .int .i64
 (sumF
 (List.take (x_3.i + (1 : Nat))
 l)).fst,
 .bool
 (sumF
 (List.take (x_3.i + (1 : Nat))
 l)).snd,
 .int .i64
 (↑(manyP l (x_3.i + (1 : Nat))) : Int),
 .int .i64
 (↑(lowP (minB l) (List.take x_3.i l)) :
 Int),
 .int .i64
 (↑(lowP (maxB l) (List.take x_3.i l)) :
 Int),
 .int .i64 (↑x_3.i : Int),
 .ptr 2 0]
 [.int .i64 kind,
 .sl 6 (itsL l) .no,
 .ptr 0 0,
 .ptr 1 0,
 .int .i64
 (sumF
 (List.take (y.i + (1 : Nat))
 l)).fst,
 .bool
 (sumF
 (List.take (y.i + (1 : Nat))
 l)).snd,
 .int .i64
 (↑(manyP l (y.i + (1 : Nat))) : Int),
 .int .i64
 (↑(lowP (minB l)
 (List.take (y.i + (1 : Nat)) l)) :
 Int),
 .int .i64
 (↑(lowP (maxB l) (List.take y.i l)) :
 Int),
 .int .i64 (↑y.i : Int),
 .ptr 2 0] ∧
 StIs
 { boxes := [some [.int .i64 (minB l).k, .int .i64 (minB l).n, .str (minB l).s], some [.int .i64 (maxB l).k, .int .i64 (maxB l).n, .str (maxB l).s], some [.int .i64 x_3.x.k, .int .i64 x_3.x.n, .str x_3.x.s]], live := [] }
 { boxes := [some [.int .i64 (minB l).k, .int .i64 (minB l).n, .str (minB l).s], some [.int .i64 (maxB l).k, .int .i64 (maxB l).n, .str (maxB l).s], some [.int .i64 y.x.k, .int .i64 y.x.n, .str y.x.s]], live := [] } ∧
 l[y.i]? = some y.x ∧
 some (AV.int IntKind.i64 (↑x_3.i : Int)) =
 some
 (AV.int IntKind.i64 (↑y.i : Int)))) ∧
 ∀ (x_4 : KM),
 l[x_4.i]? = some x_4.x →
 some (AV.int IntKind.i64 (↑x_3.i : Int)) =
 some (AV.int IntKind.i64 (↑x_4.i : Int)) →
 ((x_4.x.k == (maxB l).k &&
 (x_4.x.n == (maxB l).n &&
 (x_4.x.s == (maxB l).s && true))) =
 true →
 ∃ (y : Nat),
 ValsAre
 [.int .i64 kind,
 .sl 6 (itsL l) .no,
 .ptr 0 0,
 .ptr 1 0,
 .int .i64
 (sumF
 (List.take (x_4.i + (1 : Nat))
 l)).fst,
 .bool
 (sumF
 (List.take (x_4.i + (1 : Nat))
 l)).snd,
 .int .i64
 (↑(manyP l (x_4.i + (1 : Nat))) :
 Int),
 .int .i64
 (↑(lowP (minB l)
 (List.take
 (x_4.i + (1 : Nat)) l)) :
 Int),
 .int .i64
 (IntKind.i64.wrap
 ((↑(lowP (maxB l)
 (List.take x_4.i l)) :
 Int) +
 (1 : Int))),
 .int .i64
 (IntKind.i64.wrap
 ((↑x_4.i : Int) + (1 : Int)))]
 [.int .i64 kind,
 .sl 6 (itsL l) .no,
 .ptr 0 0,
 .ptr 1 0,
 .int .i64
 (sumF (List.take y l)).fst,
 .bool (sumF (List.take y l)).snd,
 .int .i64
 (↑(manyP l y) : Int),
 .int .i64
 (↑(lowP (minB l)
 (List.take y l)) :
 Int),
 .int .i64
 (↑(lowP (maxB l)
 (List.take y l)) :
 Int),
 .int .i64 (↑y : Int)] ∧
 StIs
 { boxes := [some [.int .i64 (minB l).k, .int .i64 (minB l).n, .str (minB l).s], some [.int .i64 (maxB l).k, .int .i64 (maxB l).n, .str (maxB l).s]], live := [] }
 { boxes := [some [.int .i64 (minB l).k, .int .i64 (minB l).n, .str (minB l).s], some [.int .i64 (maxB l).k, .int .i64 (maxB l).n, .str (maxB l).s]], live := [] } ∧
 y ≤ l.length ∧
 l.length - y < l.length - x) ∧
 ((x_4.x.k == (maxB l).k &&
 (x_4.x.n == (maxB l).n &&
 (x_4.x.s == (maxB l).s && true))) =
 false →
 ∃ (y : Nat),
 ValsAre
 [.int .i64 kind,
 .sl 6 (itsL l) .no,
 .ptr 0 0,
 .ptr 1 0,
 .int .i64
 (sumF
 (List.take (x_4.i + (1 : Nat))
 l)).fst,
 .bool
 (sumF
 (List.take (x_4.i + (1 : Nat))
 l)).snd,
 .int .i64
 (↑(manyP l (x_4.i + (1 : Nat))) :
 Int),
 .int .i64
 (↑(lowP (minB l)
 (List.take
 (x_4.i + (1 : Nat)) l)) :
 Int),
 .int .i64
 (↑(lowP (maxB l)
 (List.take x_4.i l)) :
 Int),
 .int .i64
 (IntKind.i64.wrap
 ((↑x_4.i : Int) + (1 : Int)))]
 [.int .i64 kind,
 .sl 6 (itsL l) .no,
 .ptr 0 0,
 .ptr 1 0,
 .int .i64
 (sumF (List.take y l)).fst,
 .bool (sumF (List.take y l)).snd,
 .int .i64
 (↑(manyP l y) : Int),
 .int .i64
 (↑(lowP (minB l)
 (List.take y l)) :
 Int),
 .int .i64
 (↑(lowP (maxB l)
 (List.take y l)) :
 Int),
 .int .i64 (↑y : Int)] ∧
 StIs
 { boxes := [some [.int .i64 (minB l).k, .int .i64 (minB l).n, .str (minB l).s], some [.int .i64 (maxB l).k, .int .i64 (maxB l).n, .str (maxB l).s]], live := [] }
 { boxes := [some [.int .i64 (minB l).k, .int .i64 (minB l).n, .str (minB l).s], some [.int .i64 (maxB l).k, .int .i64 (maxB l).n, .str (maxB l).s]], live := [] } ∧
 y ≤ l.length ∧
 l.length - y < l.length - x))))) ∧
 (metP (List.take x_2.k l) x_2.x = false →
 (decide ((↑x_2.k : Int) < (↑x_2.i : Int)) = true →
 ((0 : Int) ≤ (↑x_2.k : Int) ∧ (↑x_2.k : Int) < (↑(itsL l).length : Int)) ∧
 ∃ (n : Int) (n_5 : Int) (s : List UInt8),
 takeAt PA 26 (itsL l) (↑x_2.k : Int).toNat 0 =
 some
 (AV.agg
 [.int .i64 n, .int .i64 n_5, .str s]) ∧
 ((n == x_2.x.k && (n_5 == x_2.x.n && (s == x_2.x.s && true))) = true →
 ∃ (y : KM),
 ValsAre
 [.int .i64 kind, .sl 6 (itsL l) .no,
 .ptr 0 0,
 .ptr 1 0,
 .int .i64
 (sumF (List.take (x_2.i + (1 : Nat)) l)).fst,
 .bool (sumF (List.take (x_2.i + (1 : Nat)) l)).snd,
 .int .i64 (↑(manyP l x_2.i) : Int),
 .int .i64
 (↑(lowP (minB l) (List.take x_2.i l)) : Int),
 .int .i64
 (↑(lowP (maxB l) (List.take x_2.i l)) : Int),
 .int .i64 (↑x_2.i : Int),
 .ptr 2 0, .bool true,
 .int .i64
 (IntKind.i64.wrap ((↑x_2.k : Int) + (1 : Int)))]
 [.int .i64 kind, .sl 6 (itsL l) .no,
 .ptr 0 0,
 .ptr 1 0,
 .int .i64
 (sumF (List.take (y.i + (1 : Nat)) l)).fst,
 .bool (sumF (List.take (y.i + (1 : Nat)) l)).snd,
 .int .i64 (↑(manyP l y.i) : Int),
 .int .i64
 (↑(lowP (minB l) (List.take y.i l)) : Int),
 .int .i64
 (↑(lowP (maxB l) (List.take y.i l)) : Int),
 .int .i64 (↑y.i : Int),
 .ptr 2 0,
 .bool (metP (List.take y.k l) y.x),
 .int .i64 (↑y.k : Int)] ∧
 StIs
 { boxes := [some [.int .i64 (minB l).k, .int .i64 (minB l).n, .str (minB l).s], some [.int .i64 (maxB l).k, .int .i64 (maxB l).n, .str (maxB l).s], some [.int .i64 x_2.x.k, .int .i64 x_2.x.n, .str x_2.x.s]], live := [] }
 { boxes := [some [.int .i64 (minB l).k, .int .i64 (minB l).n, .str (minB l).s], some [.int .i64 (maxB l).k, .int .i64 (maxB l).n, .str (maxB l).s], some [.int .i64 y.x.k, .int .i64 y.x.n, .str y.x.s]], live := [] } ∧
 (l[y.i]? = some y.x ∧ y.k ≤ y.i) ∧
 some (AV.int IntKind.i64 (↑x_1.i : Int)) =
 some (AV.int IntKind.i64 (↑y.i : Int)) ∧
 y.i - y.k < x_2.i - x_2.k) ∧
 ((n == x_2.x.k && (n_5 == x_2.x.n && (s == x_2.x.s && true))) =
 false →
 ∃ (y : KM),
 ValsAre
 [.int .i64 kind, .sl 6 (itsL l) .no,
 .ptr 0 0,
 .ptr 1 0,
 .int .i64
 (sumF (List.take (x_2.i + (1 : Nat)) l)).fst,
 .bool (sumF (List.take (x_2.i + (1 : Nat)) l)).snd,
 .int .i64 (↑(manyP l x_2.i) : Int),
 .int .i64
 (↑(lowP (minB l) (List.take x_2.i l)) : Int),
 .int .i64
 (↑(lowP (maxB l) (List.take x_2.i l)) : Int),
 .int .i64 (↑x_2.i : Int),
 .ptr 2 0, .bool false,
 .int .i64
 (IntKind.i64.wrap ((↑x_2.k : Int) + (1 : Int)))]
 [.int .i64 kind, .sl 6 (itsL l) .no,
 .ptr 0 0,
 .ptr 1 0,
 .int .i64
 (sumF (List.take (y.i + (1 : Nat)) l)).fst,
 .bool (sumF (List.take (y.i + (1 : Nat)) l)).snd,
 .int .i64 (↑(manyP l y.i) : Int),
 .int .i64
 (↑(lowP (minB l) (List.take y.i l)) : Int),
 .int .i64
 (↑(lowP (maxB l) (List.take y.i l)) : Int),
 .int .i64 (↑y.i : Int),
 .ptr 2 0,
 .bool (metP (List.take y.k l) y.x),
 .int .i64 (↑y.k : Int)] ∧
 StIs
 { boxes := [some [.int .i64 (minB l).k, .int .i64 (minB l).n, .str (minB l).s], some [.int .i64 (maxB l).k, .int .i64 (maxB l).n, .str (maxB l).s], some [.int .i64 x_2.x.k, .int .i64 x_2.x.n, .str x_2.x.s]], live := [] }
 { boxes := [some [.int .i64 (minB l).k, .int .i64 (minB l).n, .str (minB l).s], some [.int .i64 (maxB l).k, .int .i64 (maxB l).n, .str (maxB l).s], some [.int .i64 y.x.k, .int .i64 y.x.n, .str y.x.s]], live := [] } ∧
 (l[y.i]? = some y.x ∧ y.k ≤ y.i) ∧
 some (AV.int IntKind.i64 (↑x_1.i : Int)) =
 some (AV.int IntKind.i64 (↑y.i : Int)) ∧
 y.i - y.k < x_2.i - x_2.k)) ∧
 (decide ((↑x_2.k : Int) < (↑x_2.i : Int)) = false →
 (∃ (y : KM),
 ValsAre
 [.int .i64 kind, .sl 6 (itsL l) .no,
 .ptr 0 0, .ptr 1 0,
 .int .i64 (sumF (List.take (x_2.i + (1 : Nat)) l)).fst,
 .bool (sumF (List.take (x_2.i + (1 : Nat)) l)).snd,
 .int .i64
 (IntKind.i64.wrap ((↑(manyP l x_2.i) : Int) + (1 : Int))),
 .int .i64 (↑(lowP (minB l) (List.take x_2.i l)) : Int),
 .int .i64 (↑(lowP (maxB l) (List.take x_2.i l)) : Int),
 .int .i64 (↑x_2.i : Int), .ptr 2 0]
 [.int .i64 kind, .sl 6 (itsL l) .no,
 .ptr 0 0, .ptr 1 0,
 .int .i64 (sumF (List.take (y.i + (1 : Nat)) l)).fst,
 .bool (sumF (List.take (y.i + (1 : Nat)) l)).snd,
 .int .i64 (↑(manyP l (y.i + (1 : Nat))) : Int),
 .int .i64 (↑(lowP (minB l) (List.take y.i l)) : Int),
 .int .i64 (↑(lowP (maxB l) (List.take y.i l)) : Int),
 .int .i64 (↑y.i : Int), .ptr 2 0] ∧
 StIs
 { boxes := [some [.int .i64 (minB l).k, .int .i64 (minB l).n, .str (minB l).s], some [.int .i64 (maxB l).k, .int .i64 (maxB l).n, .str (maxB l).s], some [.int .i64 x_2.x.k, .int .i64 x_2.x.n, .str x_2.x.s]], live := [] }
 { boxes := [some [.int .i64 (minB l).k, .int .i64 (minB l).n, .str (minB l).s], some [.int .i64 (maxB l).k, .int .i64 (maxB l).n, .str (maxB l).s], some [.int .i64 y.x.k, .int .i64 y.x.n, .str y.x.s]], live := [] } ∧
 l[y.i]? = some y.x ∧
 some (AV.int IntKind.i64 (↑x_2.i : Int)) =
 some (AV.int IntKind.i64 (↑y.i : Int))) ∧
 ∀ (x_3 : KM),
 l[x_3.i]? = some x_3.x →
 some (AV.int IntKind.i64 (↑x_2.i : Int)) =
 some (AV.int IntKind.i64 (↑x_3.i : Int)) →
 ∃ (n : Int),
 CallIs
 (some
 (AV.int IntKind.i64
 (cmpV x_3.x.k x_3.x.n x_3.x.s (minB l).k (minB l).n
 (minB l).s),
 []))
 (AV.int IntKind.i64 n) [] ∧
 (decide (n < (0 : Int)) = true → RetIs (AV.bool false) [] (r, [])) ∧
 (decide (n < (0 : Int)) = false →
 ∃ (n : Int),
 CallIs
 (some
 (AV.int IntKind.i64
 (cmpV x_3.x.k x_3.x.n x_3.x.s (maxB l).k (maxB l).n
 (maxB l).s),
 []))
 (AV.int IntKind.i64 n) [] ∧
 (decide (n > (0 : Int)) = true →
 RetIs (AV.bool false) [] (r, [])) ∧
 (decide (n > (0 : Int)) = false →
 (((x_3.x.k == (minB l).k &&
 (x_3.x.n == (minB l).n &&
 (x_3.x.s == (minB l).s && true))) =
 true →
 ∃ (y : KM),
 ValsAre
 [.int .i64 kind,
 .sl 6 (itsL l) .no,
 .ptr 0 0,
 .ptr 1 0,
 .int .i64
 (sumF
 (List.take (x_3.i + (1 : Nat))
 l)).fst,
 .bool
 (sumF
 (List.take (x_3.i + (1 : Nat))
 l)).snd,
 .int .i64
 (↑(manyP l (x_3.i + (1 : Nat))) : Int),
 .int .i64
 (IntKind.i64.wrap
 ((↑(lowP (minB l)
 (List.take x_3.i l)) :
 Int) +
 (1 : Int))),
 .int .i64
 (↑(lowP (maxB l) (List.take x_3.i l)) :
 Int),
 .int .i64 (↑x_3.i : Int),
 .ptr 2 0]
 [.int .i64 kind,
 .sl 6 (itsL l) .no,
 .ptr 0 0,
 .ptr 1 0,
 .int .i64
 (sumF
 (List.take (y.i + (1 : Nat))
 l)).fst,
 .bool
 (sumF
 (List.take (y.i + (1 : Nat))
 l)).snd,
 .int .i64
 (↑(manyP l (y.i + (1 : Nat))) : Int),
 .int .i64
 (↑(lowP (minB l)
 (List.take (y.i + (1 : Nat)) l)) :
 Int),
 .int .i64
 (↑(lowP (maxB l) (List.take y.i l)) :
 Int),
 .int .i64 (↑y.i : Int),
 .ptr 2 0] ∧
 StIs
 { boxes := [some [.int .i64 (minB l).k, .int .i64 (minB l).n, .str (minB l).s], some [.int .i64 (maxB l).k, .int .i64 (maxB l).n, .str (maxB l).s], some [.int .i64 x_3.x.k, .int .i64 x_3.x.n, .str x_3.x.s]], live := [] }
 { boxes := [some [.int .i64 (minB l).k, .int .i64 (minB l).n, .str (minB l).s], some [.int .i64 (maxB l).k, .int .i64 (maxB l).n, .str (maxB l).s], some [.int .i64 y.x.k, .int .i64 y.x.n, .str y.x.s]], live := [] } ∧
 l[y.i]? = some y.x ∧
 some (AV.int IntKind.i64 (↑x_3.i : Int)) =
 some
 (AV.int IntKind.i64 (↑y.i : Int))) ∧
 ((x_3.x.k == (minB l).k &&
 (x_3.x.n == (minB l).n &&
 (x_3.x.s == (minB l).s && true))) =
 false →
 ∃ (y : KM),
 ValsAre
 [.int .i64 kind,
 .sl 6 (itsL l) .no,
 .ptr 0 0,
 .ptr 1 0,
 .int .i64
 (sumF
 (List.take (x_3.i + (1 : Nat))
 l)).fst,
 .bool
 (sumF
 (List.take (x_3.i + (1 : Nat))
 l)).snd,
 .int .i64
 (↑(manyP l (x_3.i + (1 : Nat))) : Int),
 .int .i64
 (↑(lowP (minB l) (List.take x_3.i l)) :
 Int),
 .int .i64
 (↑(lowP (maxB l) (List.take x_3.i l)) :
 Int),
 .int .i64 (↑x_3.i : Int),
 .ptr 2 0]
 [.int .i64 kind,
 .sl 6 (itsL l) .no,
 .ptr 0 0,
 .ptr 1 0,
 .int .i64
 (sumF
 (List.take (y.i + (1 : Nat))
 l)).fst,
 .bool
 (sumF
 (List.take (y.i + (1 : Nat))
 l)).snd,
 .int .i64
 (↑(manyP l (y.i + (1 : Nat))) : Int),
 .int .i64
 (↑(lowP (minB l)
 (List.take (y.i + (1 : Nat)) l)) :
 Int),
 .int .i64
 (↑(lowP (maxB l) (List.take y.i l)) :
 Int),
 .int .i64 (↑y.i : Int),
 .ptr 2 0] ∧
 StIs
 { boxes := [some [.int .i64 (minB l).k, .int .i64 (minB l).n, .str (minB l).s], some [.int .i64 (maxB l).k, .int .i64 (maxB l).n, .str (maxB l).s], some [.int .i64 x_3.x.k, .int .i64 x_3.x.n, .str x_3.x.s]], live := [] }
 { boxes := [some [.int .i64 (minB l).k, .int .i64 (minB l).n, .str (minB l).s], some [.int .i64 (maxB l).k, .int .i64 (maxB l).n, .str (maxB l).s], some [.int .i64 y.x.k, .int .i64 y.x.n, .str y.x.s]], live := [] } ∧
 l[y.i]? = some y.x ∧
 some (AV.int IntKind.i64 (↑x_3.i : Int)) =
 some
 (AV.int IntKind.i64 (↑y.i : Int)))) ∧
 ∀ (x_4 : KM),
 l[x_4.i]? = some x_4.x →
 some (AV.int IntKind.i64 (↑x_3.i : Int)) =
 some (AV.int IntKind.i64 (↑x_4.i : Int)) →
 ((x_4.x.k == (maxB l).k &&
 (x_4.x.n == (maxB l).n &&
 (x_4.x.s == (maxB l).s && true))) =
 true →
 ∃ (y : Nat),
 ValsAre
 [.int .i64 kind,
 .sl 6 (itsL l) .no,
 .ptr 0 0,
 .ptr 1 0,
 .int .i64
 (sumF
 (List.take (x_4.i + (1 : Nat))
 l)).fst,
 .bool
 (sumF
 (List.take (x_4.i + (1 : Nat))
 l)).snd,
 .int .i64
 (↑(manyP l (x_4.i + (1 : Nat))) :
 Int),
 .int .i64
 (↑(lowP (minB l)
 (List.take
 (x_4.i + (1 : Nat)) l)) :
 Int),
 .int .i64
 (IntKind.i64.wrap
 ((↑(lowP (maxB l)
 (List.take x_4.i l)) :
 Int) +
 (1 : Int))),
 .int .i64
 (IntKind.i64.wrap
 ((↑x_4.i : Int) + (1 : Int)))]
 [.int .i64 kind,
 .sl 6 (itsL l) .no,
 .ptr 0 0,
 .ptr 1 0,
 .int .i64
 (sumF (List.take y l)).fst,
 .bool (sumF (List.take y l)).snd,
 .int .i64
 (↑(manyP l y) : Int),
 .int .i64
 (↑(lowP (minB l)
 (List.take y l)) :
 Int),
 .int .i64
 (↑(lowP (maxB l)
 (List.take y l)) :
 Int),
 .int .i64 (↑y : Int)] ∧
 StIs
 { boxes := [some [.int .i64 (minB l).k, .int .i64 (minB l).n, .str (minB l).s], some [.int .i64 (maxB l).k, .int .i64 (maxB l).n, .str (maxB l).s]], live := [] }
 { boxes := [some [.int .i64 (minB l).k, .int .i64 (minB l).n, .str (minB l).s], some [.int .i64 (maxB l).k, .int .i64 (maxB l).n, .str (maxB l).s]], live := [] } ∧
 y ≤ l.length ∧
 l.length - y < l.length - x) ∧
 ((x_4.x.k == (maxB l).k &&
 (x_4.x.n == (maxB l).n &&
 (x_4.x.s == (maxB l).s && true))) =
 false →
 ∃ (y : Nat),
 ValsAre
 [.int .i64 kind,
 .sl 6 (itsL l) .no,
 .ptr 0 0,
 .ptr 1 0,
 .int .i64
 (sumF
 (List.take (x_4.i + (1 : Nat))
 l)).fst,
 .bool
 (sumF
 (List.take (x_4.i + (1 : Nat))
 l)).snd,
 .int .i64
 (↑(manyP l (x_4.i + (1 : Nat))) :
 Int),
 .int .i64
 (↑(lowP (minB l)
 (List.take
 (x_4.i + (1 : Nat)) l)) :
 Int),
 .int .i64
 (↑(lowP (maxB l)
 (List.take x_4.i l)) :
 Int),
 .int .i64
 (IntKind.i64.wrap
 ((↑x_4.i : Int) + (1 : Int)))]
 [.int .i64 kind,
 .sl 6 (itsL l) .no,
 .ptr 0 0,
 .ptr 1 0,
 .int .i64
 (sumF (List.take y l)).fst,
 .bool (sumF (List.take y l)).snd,
 .int .i64
 (↑(manyP l y) : Int),
 .int .i64
 (↑(lowP (minB l)
 (List.take y l)) :
 Int),
 .int .i64
 (↑(lowP (maxB l)
 (List.take y l)) :
 Int),
 .int .i64 (↑y : Int)] ∧
 StIs
 { boxes := [some [.int .i64 (minB l).k, .int .i64 (minB l).n, .str (minB l).s], some [.int .i64 (maxB l).k, .int .i64 (maxB l).n, .str (maxB l).s]], live := [] }
 { boxes := [some [.int .i64 (minB l).k, .int .i64 (minB l).n, .str (minB l).s], some [.int .i64 (maxB l).k, .int .i64 (maxB l).n, .str (maxB l).s]], live := [] } ∧
 y ≤ l.length ∧
 l.length - y < l.length - x))))))) ∧
 (decide ((↑x : Int) < (↑(itsL l).length : Int)) = false →
 ∃ (_y : Unit),
 ValsAre
 [.int .i64 kind, .sl 6 (itsL l) .no, .ptr 0 0,
 .ptr 1 0, .int .i64 (sumF (List.take x l)).fst,
 .bool (sumF (List.take x l)).snd, .int .i64 (↑(manyP l x) : Int),
 .int .i64 (↑(lowP (minB l) (List.take x l)) : Int),
 .int .i64 (↑(lowP (maxB l) (List.take x l)) : Int)]
 [.int .i64 kind, .sl 6 (itsL l) .no, .ptr 0 0,
 .ptr 1 0, .int .i64 (sumF l).fst, .bool (sumF l).snd,
 .int .i64 (↑(manyP l l.length) : Int), .int .i64 (↑(lowP (minB l) l) : Int),
 .int .i64 (↑(lowP (maxB l) l) : Int)] ∧
 StIs
 { boxes := [some [.int .i64 (minB l).k, .int .i64 (minB l).n, .str (minB l).s], some [.int .i64 (maxB l).k, .int .i64 (maxB l).n, .str (maxB l).s]], live := [] }
 { boxes := [some [.int .i64 (minB l).k, .int .i64 (minB l).n, .str (minB l).s], some [.int .i64 (maxB l).k, .int .i64 (maxB l).n, .str (maxB l).s]], live := [] } ∧
 True ∧ True)) ∧
 ∀ (_x : Unit),
 True →
 True →
 ((sumF l).snd = true →
 ∃ (n : Int) (n_4 : Int) (s : List UInt8),
 CallIs
 (RM 33
 [.str [99, 111, 117, 110, 116],
 .int .i64 kind, .sl 6 (itsL l) .no])
 (AV.agg [.int .i64 n, .int .i64 n_4, .str s]) [] ∧
 ∃ (n_5 : Int) (n_6 : Int) (s_2 : List UInt8),
 CallIs
 (some
 (AV.agg [.int .i64 2, .int .i64 (↑(itsL l).length : Int), .str []],
 []))
 (AV.agg [.int .i64 n_5, .int .i64 n_6, .str s_2]) [] ∧
 ((!(n == n_5 && (n_4 == n_6 && (s == s_2 && true)))) = true → RetIs (AV.bool false) [] (r, [])) ∧
 ((!(n == n_5 && (n_4 == n_6 && (s == s_2 && true)))) = false →
 ∃ (n : Int) (n_7 : Int) (s : List UInt8),
 CallIs
 (RM 33
 [.str
 [100, 105, 115, 116, 105,
 110, 99, 116],
 .int .i64 kind, .sl 6 (itsL l) .no])
 (AV.agg [.int .i64 n, .int .i64 n_7, .str s]) [] ∧
 ∃ (n_8 : Int) (n_9 : Int) (s_3 : List UInt8),
 CallIs
 (some
 (AV.agg
 [.int .i64 2,
 .int .i64 (↑(manyP l l.length) : Int), .str []],
 []))
 (AV.agg [.int .i64 n_8, .int .i64 n_9, .str s_3]) [] ∧
 ((!(n == n_8 && (n_7 == n_9 && (s == s_3 && true)))) = true →
 RetIs (AV.bool false) [] (r, [])) ∧
 ((!(n == n_8 && (n_7 == n_9 && (s == s_3 && true)))) = false →
 (((↑(itsL l).length : Int) == (0 : Int)) = true →
 (((minB l).k == (0 : Int) &&
 ((minB l).n == (0 : Int) && ((minB l).s == [] && true))) =
 true →
 (((maxB l).k == (0 : Int) &&
 ((maxB l).n == (0 : Int) && ((maxB l).s == [] && true))) =
 true →
 ∃ (n : Int) (n_10 : Int) (s : List UInt8),
 CallIs
 (RM 33
 [.str [115, 117, 109],
 .int .i64 kind,
 .sl 6 (itsL l) .no])
 (AV.agg
 [.int .i64 n, .int .i64 n_10,
 .str s])
 [] ∧
 ((n == (0 : Int) &&
 (n_10 == (0 : Int) && (s == [] && true))) =
 true →
 ∃ (n : Int) (n_11 : Int) (s : List UInt8),
 CallIs
 (RM 33
 [.str
 [109, 101,
 97, 110],
 .int .i64 kind,
 .sl 6 (itsL l) .no])
 (AV.agg
 [.int .i64 n,
 .int .i64 n_11, .str s])
 [] ∧
 ((n == (0 : Int) &&
 (n_11 == (0 : Int) &&
 (s == [] && true))) =
 true →
 RetIs (AV.bool true) [] (r, [])) ∧
 ((n == (0 : Int) &&
 (n_11 == (0 : Int) &&
 (s == [] && true))) =
 false →
 RetIs (AV.bool false) [] (r, []))) ∧
 ((n == (0 : Int) &&
 (n_10 == (0 : Int) && (s == [] && true))) =
 false →
 RetIs (AV.bool false) [] (r, []))) ∧
 (((maxB l).k == (0 : Int) &&
 ((maxB l).n == (0 : Int) && ((maxB l).s == [] && true))) =
 false →
 RetIs (AV.bool false) [] (r, []))) ∧
 (((minB l).k == (0 : Int) &&
 ((minB l).n == (0 : Int) && ((minB l).s == [] && true))) =
 false →
 RetIs (AV.bool false) [] (r, []))) ∧
 (((↑(itsL l).length : Int) == (0 : Int)) = false →
 (((↑(lowP (minB l) l) : Int) == (0 : Int)) = true →
 RetIs (AV.bool false) [] (r, [])) ∧
 (((↑(lowP (minB l) l) : Int) == (0 : Int)) = false →
 (((↑(lowP (maxB l) l) : Int) == (0 : Int)) = true →
 RetIs (AV.bool false) [] (r, [])) ∧
 (((↑(lowP (maxB l) l) : Int) == (0 : Int)) = false →
 ∃ (n : Int) (n_10 : Int) (s : List UInt8),
 CallIs
 (RM 33
 [.str [115, 117, 109],
 .int .i64 kind,
 .sl 6 (itsL l) .no])
 (AV.agg
 [.int .i64 n, .int .i64 n_10,
 .str s])
 [] ∧
 ((!(n == kind &&
 (n_10 == (sumF l).fst && (s == [] && true)))) =
 true →
 RetIs (AV.bool false) [] (r, [])) ∧
 ((!(n == kind &&
 (n_10 == (sumF l).fst && (s == [] && true)))) =
 false →
 (((kind == (2 : Int)) = true →
 ∃ (n : Int) (b : Bool),
 CallIs
 (some
 (AV.tup
 [.int .i64
 (fromD (sumF l).fst).fst,
 .bool
 (fromD (sumF l).fst).snd],
 []))
 (AV.tup
 [.int .i64 n, .bool b])
 [] ∧
 (b = true →
 ∃ (_y : Unit),
 ValsAre
 [.int .i64 kind,
 .sl 6 (itsL l)
 .no,
 .int .i64
 (↑(itsL l).length : Int),
 .int .i64 n,
 .bool true]
 [.int .i64 kind,
 .sl 6 (itsL l)
 .no,
 .int .i64
 (↑l.length : Int),
 .int .i64
 (dvd kind (sumF l)).fst,
 .bool
 (dvd kind (sumF l)).snd] ∧
 StIs
 { boxes := [some [.int .i64 (minB l).k, .int .i64 (minB l).n, .str (minB l).s], some [.int .i64 (maxB l).k, .int .i64 (maxB l).n, .str (maxB l).s]], live := [] }
 { boxes := [some [.int .i64 (minB l).k, .int .i64 (minB l).n, .str (minB l).s], some [.int .i64 (maxB l).k, .int .i64 (maxB l).n, .str (maxB l).s]], live := [] } ∧
 True ∧ True) ∧
 (b = false →
 ∃ (_y : Unit),
 ValsAre
 [.int .i64 kind,
 .sl 6 (itsL l)
 .no,
 .int .i64
 (↑(itsL l).length : Int),
 .int .i64 n,
 .bool false]
 [.int .i64 kind,
 .sl 6 (itsL l)
 .no,
 .int .i64
 (↑l.length : Int),
 .int .i64
 (dvd kind (sumF l)).fst,
 .bool
 (dvd kind (sumF l)).snd] ∧
 StIs
 { boxes := [some [.int .i64 (minB l).k, .int .i64 (minB l).n, .str (minB l).s], some [.int .i64 (maxB l).k, .int .i64 (maxB l).n, .str (maxB l).s]], live := [] }
 { boxes := [some [.int .i64 (minB l).k, .int .i64 (minB l).n, .str (minB l).s], some [.int .i64 (maxB l).k, .int .i64 (maxB l).n, .str (maxB l).s]], live := [] } ∧
 True ∧ True)) ∧
 ((kind == (2 : Int)) = false →
 ∃ (_y : Unit),
 ValsAre
 [.int .i64 kind,
 .sl 6 (itsL l) .no,
 .int .i64
 (↑(itsL l).length : Int),
 .int .i64 (sumF l).fst,
 .bool true]
 [.int .i64 kind,
 .sl 6 (itsL l) .no,
 .int .i64 (↑l.length : Int),
 .int .i64
 (dvd kind (sumF l)).fst,
 .bool (dvd kind (sumF l)).snd] ∧
 StIs
 { boxes := [some [.int .i64 (minB l).k, .int .i64 (minB l).n, .str (minB l).s], some [.int .i64 (maxB l).k, .int .i64 (maxB l).n, .str (maxB l).s]], live := [] }
 { boxes := [some [.int .i64 (minB l).k, .int .i64 (minB l).n, .str (minB l).s], some [.int .i64 (maxB l).k, .int .i64 (maxB l).n, .str (maxB l).s]], live := [] } ∧
 True ∧ True)) ∧
 ∀ (_x : Unit),
 True →
 True →
 ((dvd kind (sumF l)).snd = true →
 ∃ (n : Int) (b : Bool),
 CallIs
 (RM 38
 [.int .i64
 (dvd kind (sumF l)).fst,
 .int .i64
 (IntKind.i64.wrap
 ((↑l.length : Int) *
 (1000000 : Int)))])
 (AV.tup
 [.int .i64 n,
 .bool b])
 [] ∧
 (b = true →
 ∃ (n_11 : Int) (n_12 : Int) (s : List UInt8),
 CallIs
 (RM 33
 [.str
 [109,
 101,
 97,
 (110 :
 UInt8)],
 .int .i64
 kind,
 .sl 6
 (itsL l)
 .no])
 (AV.agg
 [.int .i64
 n_11,
 .int .i64
 n_12,
 .str s])
 [] ∧
 ∃ (n_13 : Int) (n_14 : Int),
 ∃ (s_4 :
 List UInt8),
 CallIs
 (some
 (AV.agg
 [.int .i64
 (3 :
 Int),
 .int .i64
 n,
 .str
 []],
 []))
 (AV.agg
 [.int .i64
 n_13,
 .int .i64
 n_14,
 .str
 s_4])
 [] ∧
 ((n_11 ==
 n_13 &&
 (n_12 ==
 n_14 &&
 (s ==
 s_4 &&
 true))) =
 true →
 RetIs
 (AV.bool
 true)
 []
 (r, [])) ∧
 ((n_11 ==
 n_13 &&
 (n_12 ==
 n_14 &&
 (s ==
 s_4 &&
 true))) =
 false →
 RetIs
 (AV.bool
 false)
 []
 (r,
 []))) ∧
 (b = false →
 RetIs (AV.bool true) []
 (r, []))) ∧
 ((dvd kind (sumF l)).snd = false →
 ∃ (n : Int) (b : Bool),
 CallIs
 (RM 38
 [.int .i64
 (dvd kind (sumF l)).fst,
 .int .i64
 (IntKind.i64.wrap
 ((↑l.length : Int) *
 (1000000 : Int)))])
 (AV.tup
 [.int .i64 n,
 .bool b])
 [] ∧
 (b = true →
 RetIs (AV.bool true) []
 (r, [])) ∧
 (b = false →
 RetIs (AV.bool true) []
 (r, [])))))))))) ∧
 ((sumF l).snd = false →
 ∃ (n : Int) (n_4 : Int) (s : List UInt8),
 CallIs
 (RM 33
 [.str [99, 111, 117, 110, 116],
 .int .i64 kind, .sl 6 (itsL l) .no])
 (AV.agg [.int .i64 n, .int .i64 n_4, .str s]) [] ∧
 ∃ (n_5 : Int) (n_6 : Int) (s_2 : List UInt8),
 CallIs
 (some
 (AV.agg [.int .i64 2, .int .i64 (↑(itsL l).length : Int), .str []],
 []))
 (AV.agg [.int .i64 n_5, .int .i64 n_6, .str s_2]) [] ∧
 ((!(n == n_5 && (n_4 == n_6 && (s == s_2 && true)))) = true → RetIs (AV.bool false) [] (r, [])) ∧
 ((!(n == n_5 && (n_4 == n_6 && (s == s_2 && true)))) = false →
 ∃ (n : Int) (n_7 : Int) (s : List UInt8),
 CallIs
 (RM 33
 [.str
 [100, 105, 115, 116, 105,
 110, 99, 116],
 .int .i64 kind, .sl 6 (itsL l) .no])
 (AV.agg [.int .i64 n, .int .i64 n_7, .str s]) [] ∧
 ∃ (n_8 : Int) (n_9 : Int) (s_3 : List UInt8),
 CallIs
 (some
 (AV.agg
 [.int .i64 2,
 .int .i64 (↑(manyP l l.length) : Int), .str []],
 []))
 (AV.agg [.int .i64 n_8, .int .i64 n_9, .str s_3]) [] ∧
 ((!(n == n_8 && (n_7 == n_9 && (s == s_3 && true)))) = true →
 RetIs (AV.bool false) [] (r, [])) ∧
 ((!(n == n_8 && (n_7 == n_9 && (s == s_3 && true)))) = false →
 (((↑(itsL l).length : Int) == (0 : Int)) = true →
 (((minB l).k == (0 : Int) &&
 ((minB l).n == (0 : Int) && ((minB l).s == [] && true))) =
 true →
 (((maxB l).k == (0 : Int) &&
 ((maxB l).n == (0 : Int) && ((maxB l).s == [] && true))) =
 true →
 ∃ (n : Int) (n_10 : Int) (s : List UInt8),
 CallIs
 (RM 33
 [.str [115, 117, 109],
 .int .i64 kind,
 .sl 6 (itsL l) .no])
 (AV.agg
 [.int .i64 n, .int .i64 n_10,
 .str s])
 [] ∧
 ((n == (0 : Int) &&
 (n_10 == (0 : Int) && (s == [] && true))) =
 true →
 ∃ (n : Int) (n_11 : Int) (s : List UInt8),
 CallIs
 (RM 33
 [.str
 [109, 101,
 97, 110],
 .int .i64 kind,
 .sl 6 (itsL l) .no])
 (AV.agg
 [.int .i64 n,
 .int .i64 n_11, .str s])
 [] ∧
 ((n == (0 : Int) &&
 (n_11 == (0 : Int) &&
 (s == [] && true))) =
 true →
 RetIs (AV.bool true) [] (r, [])) ∧
 ((n == (0 : Int) &&
 (n_11 == (0 : Int) &&
 (s == [] && true))) =
 false →
 RetIs (AV.bool false) [] (r, []))) ∧
 ((n == (0 : Int) &&
 (n_10 == (0 : Int) && (s == [] && true))) =
 false →
 RetIs (AV.bool false) [] (r, []))) ∧
 (((maxB l).k == (0 : Int) &&
 ((maxB l).n == (0 : Int) && ((maxB l).s == [] && true))) =
 false →
 RetIs (AV.bool false) [] (r, []))) ∧
 (((minB l).k == (0 : Int) &&
 ((minB l).n == (0 : Int) && ((minB l).s == [] && true))) =
 false →
 RetIs (AV.bool false) [] (r, []))) ∧
 (((↑(itsL l).length : Int) == (0 : Int)) = false →
 (((↑(lowP (minB l) l) : Int) == (0 : Int)) = true →
 RetIs (AV.bool false) [] (r, [])) ∧
 (((↑(lowP (minB l) l) : Int) == (0 : Int)) = false →
 (((↑(lowP (maxB l) l) : Int) == (0 : Int)) = true →
 RetIs (AV.bool false) [] (r, [])) ∧
 (((↑(lowP (maxB l) l) : Int) == (0 : Int)) = false →
 (((kind == (2 : Int)) = true →
 ∃ (_y : Unit),
 ValsAre
 [.int .i64 kind,
 .sl 6 (itsL l) .no,
 .int .i64 (↑(itsL l).length : Int),
 .int .i64 (sumF l).fst, .bool false]
 [.int .i64 kind,
 .sl 6 (itsL l) .no,
 .int .i64 (↑l.length : Int),
 .int .i64 (dvd kind (sumF l)).fst,
 .bool (dvd kind (sumF l)).snd] ∧
 StIs
 { boxes := [some [.int .i64 (minB l).k, .int .i64 (minB l).n, .str (minB l).s], some [.int .i64 (maxB l).k, .int .i64 (maxB l).n, .str (maxB l).s]], live := [] }
 { boxes := [some [.int .i64 (minB l).k, .int .i64 (minB l).n, .str (minB l).s], some [.int .i64 (maxB l).k, .int .i64 (maxB l).n, .str (maxB l).s]], live := [] } ∧
 True ∧ True) ∧
 ((kind == (2 : Int)) = false →
 ∃ (_y : Unit),
 ValsAre
 [.int .i64 kind,
 .sl 6 (itsL l) .no,
 .int .i64 (↑(itsL l).length : Int),
 .int .i64 (sumF l).fst, .bool false]
 [.int .i64 kind,
 .sl 6 (itsL l) .no,
 .int .i64 (↑l.length : Int),
 .int .i64 (dvd kind (sumF l)).fst,
 .bool (dvd kind (sumF l)).snd] ∧
 StIs
 { boxes := [some [.int .i64 (minB l).k, .int .i64 (minB l).n, .str (minB l).s], some [.int .i64 (maxB l).k, .int .i64 (maxB l).n, .str (maxB l).s]], live := [] }
 { boxes := [some [.int .i64 (minB l).k, .int .i64 (minB l).n, .str (minB l).s], some [.int .i64 (maxB l).k, .int .i64 (maxB l).n, .str (maxB l).s]], live := [] } ∧
 True ∧ True)) ∧
 ∀ (_x : Unit),
 True →
 True →
 ((dvd kind (sumF l)).snd = true →
 ∃ (n : Int) (b : Bool),
 CallIs
 (RM 38
 [.int .i64 (dvd kind (sumF l)).fst,
 .int .i64
 (IntKind.i64.wrap
 ((↑l.length : Int) *
 (1000000 : Int)))])
 (AV.tup [.int .i64 n, .bool b])
 [] ∧
 (b = true →
 ∃ (n_10 : Int) (n_11 : Int) (s : List UInt8),
 CallIs
 (RM 33
 [.str
 [109,
 101,
 97,
 110],
 .int .i64 kind,
 .sl 6 (itsL l)
 .no])
 (AV.agg
 [.int .i64 n_10,
 .int .i64 n_11,
 .str s])
 [] ∧
 ∃ (n_12 : Int) (n_13 : Int) (s_4 : List UInt8),
 CallIs
 (some
 (AV.agg
 [.int .i64 3,
 .int .i64
 n,
 .str []],
 []))
 (AV.agg
 [.int .i64
 n_12,
 .int .i64
 n_13,
 .str s_4])
 [] ∧
 ((n_10 == n_12 &&
 (n_11 == n_13 &&
 (s == s_4 &&
 true))) =
 true →
 RetIs (AV.bool true) []
 (r, [])) ∧
 ((n_10 == n_12 &&
 (n_11 == n_13 &&
 (s == s_4 &&
 true))) =
 false →
 RetIs (AV.bool false) []
 (r, []))) ∧
 (b = false →
 RetIs (AV.bool true) [] (r, []))) ∧
 ((dvd kind (sumF l)).snd = false →
 ∃ (n : Int) (b : Bool),
 CallIs
 (RM 38
 [.int .i64 (dvd kind (sumF l)).fst,
 .int .i64
 (IntKind.i64.wrap
 ((↑l.length : Int) *
 (1000000 : Int)))])
 (AV.tup [.int .i64 n, .bool b])
 [] ∧
 (b = true → RetIs (AV.bool true) [] (r, [])) ∧
 (b = false →
 RetIs (AV.bool true) [] (r, [])))))))))) ∧
 (b = false → RetIs (AV.bool true) [] (r, []))) ∧
    (true = false → RetIs (AV.bool false) [] (r, []))) := by kernel_rfl
end Go.Abs
