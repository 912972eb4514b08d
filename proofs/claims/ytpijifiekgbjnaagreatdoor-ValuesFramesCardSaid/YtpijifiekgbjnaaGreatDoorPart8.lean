/- Own texts, part 8. -/
import Derived.Test.YtpijifiekgbjnaaGreatDoorPart7
import Derived.Test.YtpijifiekgbjnaaGreatDoorPart2

namespace Go.Abs
open Go.Proofs L8 Go.Wire
theorem w9 (m : Int) (l : List V3) (bs : List UInt8) : (pureW PZ (GZ m) XW9 (tbl [(10, s10), (11, s11a), (24, s24), (18, s18L), (25, s25L), (26, s26), (16, s16)]) (itbl []) (a9 l bs) [] 9 [.sl 3 (l.map aV) .no, bytesA bs] tA) =
(∃ (b : Bool),
  CallIs (some (AV.bool true, [])) (AV.bool b) [] ∧
    (b = true →
        (decide ((↑(List.map aV l).length : Int) > (20 : Int)) = true → RetIs (AV.bool true) [] (AV.bool true, [])) ∧
 (decide ((↑(List.map aV l).length : Int) > (20 : Int)) = false →
 (decide ((↑(bytesL bs).length : Int) > (100 : Int)) = true → RetIs (AV.bool true) [] (AV.bool true, [])) ∧
 (decide ((↑(bytesL bs).length : Int) > (100 : Int)) = false →
 (decide ((0 : Int) < (↑(List.map aV l).length : Int)) = true →
 ((0 : Int) ≤ (0 : Int) ∧ (0 : Int) < (↑(List.map aV l).length : Int)) ∧
 ∃ (n : Int),
 ∃ (n_1 : Int),
 ∃ (s : List UInt8),
 takeAt PZ (nat_lit 23) (List.map aV l) (nat_lit 0) (nat_lit 0) =
 some (AV.agg [AV.int IntKind.i64 n, AV.int IntKind.i64 n_1, AV.str s]) ∧
 ∃ (b : Bool),
 CallIs (some (AV.bool (shortB s), [])) (AV.bool b) [] ∧
 (b = true →
 ((0 : Int) ≤ (0 : Int) ∧ (0 : Int) < (↑(List.map aV l).length : Int)) ∧
 ∃ (n : Int),
 ∃ (n_2 : Int),
 ∃ (s : List UInt8),
 takeAt PZ (nat_lit 23) (List.map aV l) (nat_lit 0) (nat_lit 0) =
 some (AV.agg [AV.int IntKind.i64 n, AV.int IntKind.i64 n_2, AV.str s]) ∧
 ∃ (b : Bool),
 CallIs
 (tbl
 [(nat_lit 10, s10), (nat_lit 11, s11a), (nat_lit 24, s24), (nat_lit 18, s18L), (nat_lit 25, s25L),
 (nat_lit 26, s26), (nat_lit 16, s16)]
 (nat_lit 24) [AV.agg [AV.int IntKind.i64 n, AV.int IntKind.i64 n_2, AV.str s]])
 (AV.bool b) [] ∧
 (b = true →
 ((0 : Int) ≤ (0 : Int) ∧ (0 : Int) < (↑(List.map aV l).length : Int)) ∧
 ∃ (n : Int),
 ∃ (n_3 : Int),
 ∃ (s : List UInt8),
 takeAt PZ (nat_lit 23) (List.map aV l) (nat_lit 0) (nat_lit 0) =
 some (AV.agg [AV.int IntKind.i64 n, AV.int IntKind.i64 n_3, AV.str s]) ∧
 ∃ (es : List AV),
 CallIs
 (tbl
 [(nat_lit 10, s10), (nat_lit 11, s11a), (nat_lit 24, s24), (nat_lit 18, s18L),
 (nat_lit 25, s25L), (nat_lit 26, s26), (nat_lit 16, s16)]
 (nat_lit 18)
 [AV.sl (nat_lit 0) [] Own.nil,
 AV.agg [AV.int IntKind.i64 n, AV.int IntKind.i64 n_3, AV.str s]])
 (AV.sl (nat_lit 1) es Own.no) [] ∧
 (∃ (y : Nat),
 ValsAre
 [AV.sl (nat_lit 3) (List.map aV l) Own.no, AV.sl (nat_lit 1) (bytesL bs) Own.no,
 AV.sl (nat_lit 1) es Own.no, AV.int IntKind.i64 (1 : Int)]
 [AV.sl (nat_lit 3) (List.map aV l) Own.no, AV.sl (nat_lit 1) (bytesL bs) Own.no,
 AV.sl (nat_lit 1) (bytesL (encsL (List.take y l))) Own.no,
 AV.int IntKind.i64 (↑y : Int)] ∧
 StIs { boxes := [], live := [] } { boxes := [], live := [] } ∧
 (y ≤ l.length ∧
 l.length ≤ (20 : Nat) ∧
 bs.length ≤ (100 : Nat) ∧ ∀ (x : V3), x ∈ List.take y l → goodV x) ∧
 True) ∧
 ∀ (x : Nat),
 (x ≤ l.length ∧
 l.length ≤ (20 : Nat) ∧
 bs.length ≤ (100 : Nat) ∧ ∀ (x_1 : V3), x_1 ∈ List.take x l → goodV x_1) →
 (decide ((↑x : Int) < (↑(List.map aV l).length : Int)) = true →
 ((0 : Int) ≤ (↑x : Int) ∧ (↑x : Int) < (↑(List.map aV l).length : Int)) ∧
 ∃ (n : Int),
 ∃ (n_4 : Int),
 ∃ (s : List UInt8),
 takeAt PZ (nat_lit 23) (List.map aV l) (↑x : Int).toNat (nat_lit 0) =
 some
 (AV.agg
 [AV.int IntKind.i64 n, AV.int IntKind.i64 n_4, AV.str s]) ∧
 ∃ (b : Bool),
 CallIs (some (AV.bool (shortB s), [])) (AV.bool b) [] ∧
 (b = true →
 ((0 : Int) ≤ (↑x : Int) ∧
 (↑x : Int) < (↑(List.map aV l).length : Int)) ∧
 ∃ (n : Int),
 ∃ (n_5 : Int),
 ∃ (s : List UInt8),
 takeAt PZ (nat_lit 23) (List.map aV l)
 (↑x : Int).toNat (nat_lit 0) =
 some
 (AV.agg
 [AV.int IntKind.i64 n, AV.int IntKind.i64 n_5,
 AV.str s]) ∧
 ∃ (b : Bool),
 CallIs
 (tbl
 [(nat_lit 10, s10), (nat_lit 11, s11a),
 (nat_lit 24, s24), (nat_lit 18, s18L),
 (nat_lit 25, s25L), (nat_lit 26, s26),
 (nat_lit 16, s16)]
 (nat_lit 24)
 [AV.agg
 [AV.int IntKind.i64 n,
 AV.int IntKind.i64 n_5, AV.str s]])
 (AV.bool b) [] ∧
 (b = true →
 ((0 : Int) ≤ (↑x : Int) ∧
 (↑x : Int) <
 (↑(List.map aV l).length : Int)) ∧
 ∃ (n : Int),
 ∃ (n_6 : Int),
 ∃ (s : List UInt8),
 takeAt PZ (nat_lit 23)
 (List.map aV l)
 (↑x : Int).toNat (nat_lit 0) =
 some
 (AV.agg
 [AV.int IntKind.i64 n,
 AV.int IntKind.i64 n_6,
 AV.str s]) ∧
 ∃ (es : List AV),
 CallIs
 (tbl
 [(nat_lit 10, s10),
 (nat_lit 11, s11a),
 (nat_lit 24, s24),
 (nat_lit 18, s18L),
 (nat_lit 25, s25L),
 (nat_lit 26, s26),
 (nat_lit 16, s16)]
 (nat_lit 18)
 [AV.sl (nat_lit 1)
 (bytesL
 (encsL
 (List.take x l)))
 Own.no,
 AV.agg
 [AV.int IntKind.i64 n,
 AV.int IntKind.i64
 n_6,
 AV.str s]])
 (AV.sl (nat_lit 1) es
 Own.no)
 [] ∧
 ∃ (y : Nat),
 ValsAre
 [AV.sl (nat_lit 3)
 (List.map aV l)
 Own.no,
 AV.sl (nat_lit 1)
 (bytesL bs) Own.no,
 AV.sl (nat_lit 1) es
 Own.no,
 AV.int IntKind.i64
 (IntKind.i64.wrap
 ((↑x : Int) +
 (1 : Int)))]
 [AV.sl (nat_lit 3)
 (List.map aV l)
 Own.no,
 AV.sl (nat_lit 1)
 (bytesL bs) Own.no,
 AV.sl (nat_lit 1)
 (bytesL
 (encsL
 (List.take y
 l)))
 Own.no,
 AV.int IntKind.i64
 (↑y : Int)] ∧
 StIs
 { boxes := [], live := [] }
 { boxes := [], live := [] } ∧
 (y ≤ l.length ∧
 l.length ≤
 (20 : Nat) ∧
 bs.length ≤
 (100 : Nat) ∧
 ∀ (x : V3),
 x ∈
 List.take
 y l →
 goodV x) ∧
 l.length - y <
 l.length - x) ∧
 (b = false →
 RetIs (AV.bool true) []
 (AV.bool true, []))) ∧
 (b = false → RetIs (AV.bool true) [] (AV.bool true, []))) ∧
 (decide ((↑x : Int) < (↑(List.map aV l).length : Int)) = false →
 (∃ (es : List AV),
 CallIs
 (tbl
 [(nat_lit 10, s10), (nat_lit 11, s11a), (nat_lit 24, s24),
 (nat_lit 18, s18L), (nat_lit 25, s25L), (nat_lit 26, s26),
 (nat_lit 16, s16)]
 (nat_lit 25)
 [AV.sl (nat_lit 1) (bytesL bs) Own.no,
 AV.sl (nat_lit 1) (bytesL (encsL (List.take x l))) Own.no])
 (AV.sl (nat_lit 1) es Own.no) [] ∧
 ∃ (_ : Unit),
 ValsAre
 [AV.sl (nat_lit 3) (List.map aV l) Own.no,
 AV.sl (nat_lit 1) (bytesL bs) Own.no, AV.sl (nat_lit 1) es Own.no]
 [AV.sl (nat_lit 3) (List.map aV l) Own.no,
 AV.sl (nat_lit 1) (bytesL bs) Own.no,
 AV.sl (nat_lit 1) (bytesL (bs ++ frameL (encsL l))) Own.no] ∧
 StIs { boxes := [], live := [] } { boxes := [], live := [] } ∧
 (l.length ≤ (20 : Nat) ∧
 bs.length ≤ (100 : Nat) ∧ ∀ (x : V3), x ∈ l → goodV x) ∧
 True) ∧
 ∀ (_ : Unit),
 (l.length ≤ (20 : Nat) ∧
 bs.length ≤ (100 : Nat) ∧ ∀ (x : V3), x ∈ l → goodV x) →
 True →
 ∃ (es : List AV),
 ∃ (n : Int),
 ∃ (n_4 : Int),
 CallIs
 (tbl
 [(nat_lit 10, s10), (nat_lit 11, s11a), (nat_lit 24, s24),
 (nat_lit 18, s18L), (nat_lit 25, s25L), (nat_lit 26, s26),
 (nat_lit 16, s16)]
 (nat_lit 26)
 [AV.sl (nat_lit 1) (bytesL (bs ++ frameL (encsL l))) Own.no,
 AV.int IntKind.i64 (↑(bytesL bs).length : Int)])
 (AV.tup
 [AV.sl (nat_lit 1) es Own.no, AV.int IntKind.i64 n,
 AV.int IntKind.i64 n_4])
 [] ∧
 ((n_4 != (0 : Int)) = true →
 RetIs (AV.bool false) [] (AV.bool true, [])) ∧
 ((n_4 != (0 : Int)) = false →
 ((n != (↑(bytesL (bs ++ frameL (encsL l))).length : Int)) =
 true →
 RetIs (AV.bool false) [] (AV.bool true, [])) ∧
 ((n !=
 (↑(bytesL (bs ++ frameL (encsL l))).length : Int)) =
 false →
 (∃ (y : Nat),
 ValsAre
 [AV.sl (nat_lit 3) (List.map aV l) Own.no,
 AV.sl (nat_lit 1) es Own.no,
 AV.int IntKind.i64 (0 : Int),
 AV.int IntKind.i64 (0 : Int)]
 [AV.sl (nat_lit 3) (List.map aV l) Own.no,
 AV.sl (nat_lit 1) (bytesL (encsL l)) Own.no,
 AV.int IntKind.i64
 (↑(encsL (List.take y l)).length : Int),
 AV.int IntKind.i64 (↑y : Int)] ∧
 StIs { boxes := [], live := [] }
 { boxes := [], live := [] } ∧
 (y ≤ l.length ∧
 l.length ≤ (20 : Nat) ∧
 ∀ (x : V3), x ∈ l → goodV x) ∧
 True) ∧
 ∀ (x : Nat),
 (x ≤ l.length ∧
 l.length ≤ (20 : Nat) ∧
 ∀ (x : V3), x ∈ l → goodV x) →
 (decide
 ((↑x : Int) <
 (↑(List.map aV l).length : Int)) =
 true →
 ∃ (n : Int),
 ∃ (n_5 : Int),
 ∃ (s : List UInt8),
 ∃ (n_6 : Int),
 ∃ (n_7 : Int),
 CallIs
 (tbl
 [(nat_lit 10, s10),
 (nat_lit 11, s11a),
 (nat_lit 24, s24),
 (nat_lit 18, s18L),
 (nat_lit 25, s25L),
 (nat_lit 26, s26),
 (nat_lit 16, s16)]
 (nat_lit 16)
 [AV.sl (nat_lit 1)
 (bytesL (encsL l)) Own.no,
 AV.int IntKind.i64
 (↑(encsL
 (List.take x
 l)).length :
 Int)])
 (AV.tup
 [AV.agg
 [AV.int IntKind.i64 n,
 AV.int IntKind.i64 n_5,
 AV.str s],
 AV.int IntKind.i64 n_6,
 AV.int IntKind.i64 n_7])
 [] ∧
 ((0 : Int) ≤ (↑x : Int) ∧
 (↑x : Int) <
 (↑(List.map aV l).length :
 Int)) ∧
 ∃ (n_8 : Int),
 ∃ (n_9 : Int),
 ∃ (s_1 : List UInt8),
 takeAt PZ (nat_lit 23)
 (List.map aV l)
 (↑x : Int).toNat
 (nat_lit 0) =
 some
 (AV.agg
 [AV.int
 IntKind.i64
 n_8,
 AV.int
 IntKind.i64
 n_9,
 AV.str s_1]) ∧
 ((!(n == n_8 &&
 (n_5 == n_9 &&
 (s == s_1 &&
 true)))) =
 true →
 RetIs
 (AV.bool false) []
 (AV.bool true,
 [])) ∧
 ((!(n == n_8 &&
 (n_5 == n_9 &&
 (s == s_1 &&
 true)))) =
 false →
 ((n_7 !=
 (0 : Int)) =
 true →
 RetIs
 (AV.bool
 false)
 []
 (AV.bool true,
 [])) ∧
 ((n_7 !=
 (0 : Int)) =
 false →
 (decide
 (n_6 ≤
 (↑(encsL
 (List.take
 x
 l)).length :
 Int)) =
 true →
 RetIs
 (AV.bool
 false)
 []
 (AV.bool
 true,
 [])) ∧
 (decide
 (n_6 ≤
 (↑(encsL
 (List.take
 x
 l)).length :
 Int)) =
 false →
 ∃ (y : Nat),
 ValsAre
 [AV.sl
 (nat_lit
 3)
 (List.map
 aV
 l)
 Own.no,
 AV.sl
 (nat_lit
 1)
 (bytesL
 (encsL
 l))
 Own.no,
 AV.int
 IntKind.i64
 n_6,
 AV.int
 IntKind.i64
 (IntKind.i64.wrap
 ((↑x :
 Int) +
 (1 :
 Int)))]
 [AV.sl
 (nat_lit
 3)
 (List.map
 aV
 l)
 Own.no,
 AV.sl
 (nat_lit
 1)
 (bytesL
 (encsL
 l))
 Own.no,
 AV.int
 IntKind.i64
 (↑(encsL
 (List.take
 y
 l)).length :
 Int),
 AV.int
 IntKind.i64
 (↑y :
 Int)] ∧
 StIs
 { boxes := [], live := [] }
 { boxes := [], live := [] } ∧
 (y ≤
 l.length ∧
 l.length ≤
 (20 :
 Nat) ∧
 ∀
 (x :
 V3),
 x ∈
 l →
 goodV
 x) ∧
 l.length -
 y <
 l.length -
 x)))) ∧
 (decide
 ((↑x : Int) <
 (↑(List.map aV l).length : Int)) =
 false →
 (((↑(encsL (List.take x l)).length : Int) ==
 (↑(bytesL (encsL l)).length : Int)) =
 true →
 RetIs (AV.bool true) []
 (AV.bool true, [])) ∧
 (((↑(encsL (List.take x l)).length : Int) ==
 (↑(bytesL (encsL l)).length : Int)) =
 false →
 RetIs (AV.bool false) []
 (AV.bool true, []))))))) ∧
 (b = false → RetIs (AV.bool true) [] (AV.bool true, []))) ∧
 (b = false → RetIs (AV.bool true) [] (AV.bool true, []))) ∧
 (decide ((0 : Int) < (↑(List.map aV l).length : Int)) = false →
 (∃ (es : List AV),
 CallIs
 (tbl
 [(nat_lit 10, s10), (nat_lit 11, s11a), (nat_lit 24, s24), (nat_lit 18, s18L), (nat_lit 25, s25L), (nat_lit 26, s26),
 (nat_lit 16, s16)]
 (nat_lit 25) [AV.sl (nat_lit 1) (bytesL bs) Own.no, AV.sl (nat_lit 0) [] Own.nil])
 (AV.sl (nat_lit 1) es Own.no) [] ∧
 ∃ (_ : Unit),
 ValsAre [AV.sl (nat_lit 3) (List.map aV l) Own.no, AV.sl (nat_lit 1) (bytesL bs) Own.no, AV.sl (nat_lit 1) es Own.no]
 [AV.sl (nat_lit 3) (List.map aV l) Own.no, AV.sl (nat_lit 1) (bytesL bs) Own.no,
 AV.sl (nat_lit 1) (bytesL (bs ++ frameL (encsL l))) Own.no] ∧
 StIs { boxes := [], live := [] } { boxes := [], live := [] } ∧
 (l.length ≤ (20 : Nat) ∧ bs.length ≤ (100 : Nat) ∧ ∀ (x : V3), x ∈ l → goodV x) ∧ True) ∧
 ∀ (_ : Unit),
 (l.length ≤ (20 : Nat) ∧ bs.length ≤ (100 : Nat) ∧ ∀ (x : V3), x ∈ l → goodV x) →
 True →
 ∃ (es : List AV),
 ∃ (n : Int),
 ∃ (n_1 : Int),
 CallIs
 (tbl
 [(nat_lit 10, s10), (nat_lit 11, s11a), (nat_lit 24, s24), (nat_lit 18, s18L), (nat_lit 25, s25L), (nat_lit 26, s26),
 (nat_lit 16, s16)]
 (nat_lit 26)
 [AV.sl (nat_lit 1) (bytesL (bs ++ frameL (encsL l))) Own.no, AV.int IntKind.i64 (↑(bytesL bs).length : Int)])
 (AV.tup [AV.sl (nat_lit 1) es Own.no, AV.int IntKind.i64 n, AV.int IntKind.i64 n_1]) [] ∧
 ((n_1 != (0 : Int)) = true → RetIs (AV.bool false) [] (AV.bool true, [])) ∧
 ((n_1 != (0 : Int)) = false →
 ((n != (↑(bytesL (bs ++ frameL (encsL l))).length : Int)) = true → RetIs (AV.bool false) [] (AV.bool true, [])) ∧
 ((n != (↑(bytesL (bs ++ frameL (encsL l))).length : Int)) = false →
 (∃ (y : Nat),
 ValsAre
 [AV.sl (nat_lit 3) (List.map aV l) Own.no, AV.sl (nat_lit 1) es Own.no, AV.int IntKind.i64 (0 : Int),
 AV.int IntKind.i64 (0 : Int)]
 [AV.sl (nat_lit 3) (List.map aV l) Own.no, AV.sl (nat_lit 1) (bytesL (encsL l)) Own.no,
 AV.int IntKind.i64 (↑(encsL (List.take y l)).length : Int), AV.int IntKind.i64 (↑y : Int)] ∧
 StIs { boxes := [], live := [] } { boxes := [], live := [] } ∧
 (y ≤ l.length ∧ l.length ≤ (20 : Nat) ∧ ∀ (x : V3), x ∈ l → goodV x) ∧ True) ∧
 ∀ (x : Nat),
 (x ≤ l.length ∧ l.length ≤ (20 : Nat) ∧ ∀ (x : V3), x ∈ l → goodV x) →
 (decide ((↑x : Int) < (↑(List.map aV l).length : Int)) = true →
 ∃ (n : Int),
 ∃ (n_2 : Int),
 ∃ (s : List UInt8),
 ∃ (n_3 : Int),
 ∃ (n_4 : Int),
 CallIs
 (tbl
 [(nat_lit 10, s10), (nat_lit 11, s11a), (nat_lit 24, s24), (nat_lit 18, s18L),
 (nat_lit 25, s25L), (nat_lit 26, s26), (nat_lit 16, s16)]
 (nat_lit 16)
 [AV.sl (nat_lit 1) (bytesL (encsL l)) Own.no,
 AV.int IntKind.i64 (↑(encsL (List.take x l)).length : Int)])
 (AV.tup
 [AV.agg [AV.int IntKind.i64 n, AV.int IntKind.i64 n_2, AV.str s], AV.int IntKind.i64 n_3,
 AV.int IntKind.i64 n_4])
 [] ∧
 ((0 : Int) ≤ (↑x : Int) ∧ (↑x : Int) < (↑(List.map aV l).length : Int)) ∧
 ∃ (n_5 : Int),
 ∃ (n_6 : Int),
 ∃ (s_1 : List UInt8),
 takeAt PZ (nat_lit 23) (List.map aV l) (↑x : Int).toNat (nat_lit 0) =
 some (AV.agg [AV.int IntKind.i64 n_5, AV.int IntKind.i64 n_6, AV.str s_1]) ∧
 ((!(n == n_5 && (n_2 == n_6 && (s == s_1 && true)))) = true →
 RetIs (AV.bool false) [] (AV.bool true, [])) ∧
 ((!(n == n_5 && (n_2 == n_6 && (s == s_1 && true)))) = false →
 ((n_4 != (0 : Int)) = true → RetIs (AV.bool false) [] (AV.bool true, [])) ∧
 ((n_4 != (0 : Int)) = false →
 (decide (n_3 ≤ (↑(encsL (List.take x l)).length : Int)) = true →
 RetIs (AV.bool false) [] (AV.bool true, [])) ∧
 (decide (n_3 ≤ (↑(encsL (List.take x l)).length : Int)) = false →
 ∃ (y : Nat),
 ValsAre
 [AV.sl (nat_lit 3) (List.map aV l) Own.no,
 AV.sl (nat_lit 1) (bytesL (encsL l)) Own.no,
 AV.int IntKind.i64 n_3,
 AV.int IntKind.i64 (IntKind.i64.wrap ((↑x : Int) + (1 : Int)))]
 [AV.sl (nat_lit 3) (List.map aV l) Own.no,
 AV.sl (nat_lit 1) (bytesL (encsL l)) Own.no,
 AV.int IntKind.i64 (↑(encsL (List.take y l)).length : Int),
 AV.int IntKind.i64 (↑y : Int)] ∧
 StIs { boxes := [], live := [] } { boxes := [], live := [] } ∧
 (y ≤ l.length ∧
 l.length ≤ (20 : Nat) ∧ ∀ (x : V3), x ∈ l → goodV x) ∧
 l.length - y < l.length - x)))) ∧
 (decide ((↑x : Int) < (↑(List.map aV l).length : Int)) = false →
 (((↑(encsL (List.take x l)).length : Int) == (↑(bytesL (encsL l)).length : Int)) = true →
 RetIs (AV.bool true) [] (AV.bool true, [])) ∧
 (((↑(encsL (List.take x l)).length : Int) == (↑(bytesL (encsL l)).length : Int)) = false →
 RetIs (AV.bool false) [] (AV.bool true, []))))))))) ∧
      (b = false → RetIs (AV.bool false) [] (AV.bool true, []))) := by kernel_rfl
end Go.Abs

namespace Go.Abs
open Go.Proofs L8 Go.Wire
theorem takeV (l : List V3) (i : Nat) (h : i < l.length) : takeAt PZ 23 (l.map aV) i 0 = some (.agg [.int .i64 l[i].k, .int .i64 l[i].n, .str l[i].s]) := by
  have ha : aggA PZ 23 = some true := by kernel_rfl
  have hs : sizeA PZ 23 = some 3 := by kernel_rfl
  simp only [takeAt, ha, hs, List.getElem?_map, List.getElem?_eq_getElem h, Option.map_some, aV, AV.cells]
  rfl
theorem encs_succ (l : List V3) (i : Nat) (h : i < l.length) : encsL (l.take (i + 1)) = encsL (l.take i) ++ encL l[i].k l[i].n l[i].s := by
  unfold encsL
  rw [List.take_succ_eq_append_getElem h, List.flatMap_append]
  simp
theorem encs_split (l : List V3) (i : Nat) (h : i < l.length) : encsL l = encsL (l.take i) ++ (encL l[i].k l[i].n l[i].s ++ encsL (l.drop (i + 1))) := by
  unfold encsL
  have h1 : l = l.take i ++ (l[i] :: l.drop (i + 1)) := by rw [← List.drop_eq_getElem_cons h, List.take_append_drop]
  conv => lhs; rw [h1]
  rw [List.flatMap_append, List.flatMap_cons]
theorem encs_len : ∀ (l : List V3), (∀ x ∈ l, goodV x) → (encsL l).length ≤ 300 * l.length
  | [], _ => by simp [encsL]
  | v :: l, h => by
    have h1 := encs_len l fun x hx => h x (List.mem_cons_of_mem _ hx)
    obtain ⟨_, hv⟩ := h v (List.mem_cons_self)
    obtain ⟨hs, hn⟩ := valid_small hv
    have := valid_len hv hs hn
    unfold encsL at h1 ⊢
    rw [List.flatMap_cons, List.length_append, List.length_cons]
    omega
theorem good_succ {l : List V3} {i : Nat} (h : i < l.length) (hg : ∀ x ∈ l.take i, goodV x) (h1 : goodV l[i]) : ∀ x ∈ l.take (i + 1), goodV x := by
  intro x hx
  rw [List.take_succ_eq_append_getElem h] at hx
  rcases List.mem_append.1 hx with hx | hx
  · exact hg x hx
  · simp at hx; subst hx; exact h1
theorem p9 (m : Int) (l : List V3) (bs : List UInt8) : PureOk PZ (GZ m) XW9 (tbl [(10, s10), (11, s11a), (24, s24), (18, s18L), (25, s25L), (26, s26), (16, s16)]) (itbl []) (a9 l bs) [] 9 [.sl 3 (l.map aV) .no, bytesA bs] tA := by
  constructor
  rw [w9]
  refine ⟨true, ⟨rfl⟩, fun _ => ⟨fun _ => ⟨rfl⟩, fun hl => ⟨fun _ => ⟨rfl⟩, fun hb => ?_⟩⟩, fun h => (nomatch h)⟩
  have hl' : l.length ≤ 20 := by simp at hl; omega
  have hb' : bs.length ≤ 100 := by rw [bytesL_length] at hb; simp at hb; omega
  have t24 : ∀ v : V3, strOk v.s → tbl [(10, s10), (11, s11a), (24, s24), (18, s18L), (25, s25L), (26, s26), (16, s16)] 24 [.agg [.int .i64 v.k, .int .i64 v.n, .str v.s]] = some (.bool (validB v.k v.n v.s), []) := fun v h => by
    rw [tbl_miss (by decide), tbl_miss (by decide), tbl_hit, s24_at h]
  have t18 : ∀ (sz : Nat) (o : Own) (p : List UInt8) (v : V3), (sz = 1 ∨ bytesL p = []) → smallOk p → validB v.k v.n v.s = true → tbl [(10, s10), (11, s11a), (24, s24), (18, s18L), (25, s25L), (26, s26), (16, s16)] 18 [.sl sz (bytesL p) o, .agg [.int .i64 v.k, .int .i64 v.n, .str v.s]] = some (laxR (p ++ encL v.k v.n v.s)) := fun sz o p v hz hp hv => by
    obtain ⟨h1, h2⟩ := valid_small hv
    rw [tbl_miss (by decide), tbl_miss (by decide), tbl_miss (by decide), tbl_hit]
    simp only [s18L, sApp, onBytes, unBytes_mk, hz, hp, h1, h2, and_self, if_true, app_valid hv]
  have t25 : ∀ (sz : Nat) (o : Own) (p : List UInt8), (sz = 1 ∨ bytesL p = []) → strOk p → tbl [(10, s10), (11, s11a), (24, s24), (18, s18L), (25, s25L), (26, s26), (16, s16)] 25 [.sl 1 (bytesL bs) .no, .sl sz (bytesL p) o] = some (laxR (bs ++ frameL p)) := fun sz o p hz hp => by
    have h1 : strOk bs := by show bs.length ≤ _; omega
    rw [tbl_miss (by decide), tbl_miss (by decide), tbl_miss (by decide), tbl_miss (by decide), tbl_hit]
    simp only [s25L, onBytes, unBytes_mk, hz, hp, h1, true_or, and_self, if_true]
  have t26 : ∀ cs : List UInt8, cs.length ≤ 8192 → tbl [(10, s10), (11, s11a), (24, s24), (18, s18L), (25, s25L), (26, s26), (16, s16)] 26 [.sl 1 (bytesL (bs ++ frameL cs)) .no, .int .i64 ((bytesL bs).length : Int)] = some (.tup [bytesA cs, .int .i64 (bs ++ frameL cs).length, .int .i64 0], []) := fun cs hc => by
    have h10 := uintL_len10 (n := cs.length) (by omega)
    have h1 : strOk (bs ++ frameL cs) := by show (bs ++ frameL cs).length ≤ _; simp [frameL, le4]; omega
    rw [tbl_miss (by decide), tbl_miss (by decide), tbl_miss (by decide), tbl_miss (by decide), tbl_miss (by decide), tbl_hit]
    have h2 : (0 : Int) ≤ (bs.length : Int) := by omega
    simp only [s26, onBytes, unBytes_mk, true_or, h1, h2, and_self, if_true, Int.toNat_natCast, bytesL_length, frR_back bs cs hc, Option.map_some]
  have t16 : ∀ (i : Nat) (h : i < l.length), (∀ x ∈ l, goodV x) → tbl [(10, s10), (11, s11a), (24, s24), (18, s18L), (25, s25L), (26, s26), (16, s16)] 16 [.sl 1 (bytesL (encsL l)) .no, .int .i64 ((encsL (l.take i)).length : Int)] = some (rVal (l[i], ((encsL (l.take (i + 1))).length : Int), 0), []) := fun i h hg => by
    have h1 := encs_len l hg
    rw [tbl_miss (by decide), tbl_miss (by decide), tbl_miss (by decide), tbl_miss (by decide), tbl_miss (by decide), tbl_miss (by decide), tbl_hit, s16_at (by show (encsL l).length ≤ _; omega)]
    have h2 := encs_split l i h
    have hv := (hg l[i] (List.getElem_mem h)).2
    have h3 := read_back hv (encsL (l.take i)) (encsL (l.drop (i + 1)))
    rw [h2, h3, encs_succ l i h]
    simp
  have hw : ∀ x : Nat, x < l.length → IntKind.i64.wrap ((x : Int) + 1) = ((x + 1 : Nat) : Int) := fun x hx => by rw [wrapi64]; omega
  have hok : ∀ i, i ≤ l.length → (∀ x ∈ l.take i, goodV x) → (encsL (l.take i)).length ≤ 6000 := fun i hi hg => by
    have := encs_len _ hg
    rw [List.length_take] at this
    omega
  have hall : (∀ x ∈ l, goodV x) → (encsL l).length ≤ 6000 := fun hg => by have := encs_len _ hg; omega
  refine ⟨fun h0 => ?_, fun h0 => ?_⟩
  · have h0' : 0 < l.length := by simpa using h0
    refine ⟨⟨by omega, by simpa using h0'⟩, _, _, _, takeV l 0 h0', _, ⟨rfl⟩, fun hs => ⟨⟨by omega, by simpa using h0'⟩, _, _, _, takeV l 0 h0', _, ⟨t24 _ (short_str hs).2⟩, fun hv => ⟨⟨by omega, by simpa using h0'⟩, _, _, _, takeV l 0 h0', _, ⟨t18 0 .nil [] _ (.inr rfl) nil_small hv⟩, ⟨1, ⟨?_⟩, ⟨rfl⟩, ⟨by omega, hl', hb', ?_⟩, trivial⟩, fun x hx => ?_⟩, fun _ => ⟨rfl⟩⟩, fun _ => ⟨rfl⟩⟩
    · rw [encs_succ l 0 h0']; rfl
    · exact good_succ h0' (by simp) ⟨(short_str hs).1, hv⟩
    · obtain ⟨hx1, _, _, hx4⟩ := hx
      refine ⟨fun hlt => ?_, fun hge => ⟨?_, fun _ hI _ => ?_⟩⟩
      · have hlt' : x < l.length := by simpa using hlt
        refine ⟨⟨by omega, by simpa using hlt'⟩, _, _, _, takeV l x hlt', _, ⟨rfl⟩, fun hs => ⟨⟨by omega, by simpa using hlt'⟩, _, _, _, takeV l x hlt', _, ⟨t24 _ (short_str hs).2⟩, fun hv => ⟨⟨by omega, by simpa using hlt'⟩, _, _, _, takeV l x hlt', _, ⟨t18 1 .no _ _ (.inl rfl) (by have := hok x hx1 hx4; show _ ≤ _; omega) hv⟩, x + 1, ⟨?_⟩, ⟨rfl⟩, ⟨by omega, hl', hb', ?_⟩, by omega⟩, fun _ => ⟨rfl⟩⟩, fun _ => ⟨rfl⟩⟩
        · rw [encs_succ l x hlt', hw x hlt']
        · exact good_succ hlt' hx4 ⟨(short_str hs).1, hv⟩
      · have hge' : l.length ≤ x := by simpa using hge
        have e : l.take x = l := List.take_of_length_le hge'
        rw [e] at hx4 ⊢
        refine ⟨_, ⟨t25 1 .no _ (.inl rfl) (by have := hall hx4; show _ ≤ _; omega)⟩, (), ⟨rfl⟩, ⟨rfl⟩, ⟨hl', hb', hx4⟩, trivial⟩
      · refine ⟨_, _, _, ⟨t26 _ (by have := hall hI.2.2; omega)⟩, fun h => absurd h (by decide), fun _ => ⟨fun h => ?_, fun _ => ⟨⟨0, ⟨rfl⟩, ⟨rfl⟩, ⟨Nat.zero_le _, hl', hI.2.2⟩, trivial⟩, fun x hx => ⟨fun hlt => ?_, fun hge => ?_⟩⟩⟩⟩
        · rw [bytesL_length] at h; simp at h
        · have hlt' : x < l.length := by simpa using hlt
          have hv := (hI.2.2 l[x] (List.getElem_mem hlt')).2
          have hne : 0 < (encL l[x].k l[x].n l[x].s).length := by unfold encL; simp
          refine ⟨_, _, _, _, _, ⟨t16 x hlt' hI.2.2⟩, ⟨by omega, by simpa using hlt'⟩, _, _, _, takeV l x hlt', fun h => ?_, fun _ => ⟨fun h => by simp at h, fun _ => ⟨fun h => ?_, fun _ => ⟨x + 1, ⟨?_⟩, ⟨rfl⟩, ⟨by omega, hl', hI.2.2⟩, by omega⟩⟩⟩⟩
          · simp at h
          · rw [encs_succ l x hlt'] at h; simp at h; omega
          · rw [hw x hlt']
        · have hge' : l.length ≤ x := by simpa using hge
          have e : l.take x = l := List.take_of_length_le hge'
          refine ⟨fun _ => ⟨rfl⟩, fun h => ?_⟩
          rw [e, bytesL_length] at h; simp at h
  · have h0' : l = [] := by simpa using h0
    refine ⟨⟨_, ⟨t25 0 .nil [] (.inr rfl) (by show _ ≤ _; simp)⟩, (), ⟨?_⟩, ⟨rfl⟩, ⟨hl', hb', by rw [h0']; simp⟩, trivial⟩, fun _ hI _ => ?_⟩
    · rw [h0']; rfl
    · refine ⟨_, _, _, ⟨t26 _ (by have := hall hI.2.2; omega)⟩, fun h => absurd h (by decide), fun _ => ⟨fun h => ?_, fun _ => ⟨⟨0, ⟨rfl⟩, ⟨rfl⟩, ⟨Nat.zero_le _, hl', hI.2.2⟩, trivial⟩, fun x hx => ⟨fun hlt => ?_, fun hge => ?_⟩⟩⟩⟩
      · rw [bytesL_length] at h; simp at h
      · have hlt' : x < l.length := by simpa using hlt
        have hv := (hI.2.2 l[x] (List.getElem_mem hlt')).2
        have hne : 0 < (encL l[x].k l[x].n l[x].s).length := by unfold encL; simp
        refine ⟨_, _, _, _, _, ⟨t16 x hlt' hI.2.2⟩, ⟨by omega, by simpa using hlt'⟩, _, _, _, takeV l x hlt', fun h => ?_, fun _ => ⟨fun h => by simp at h, fun _ => ⟨fun h => ?_, fun _ => ⟨x + 1, ⟨?_⟩, ⟨rfl⟩, ⟨by omega, hl', hI.2.2⟩, by omega⟩⟩⟩⟩
        · simp at h
        · rw [encs_succ l x hlt'] at h; simp at h; omega
        · rw [hw x hlt']
      · have hge' : l.length ≤ x := by simpa using hge
        have e : l.take x = l := List.take_of_length_le hge'
        refine ⟨fun _ => ⟨rfl⟩, fun h => ?_⟩
        rw [e, bytesL_length] at h; simp at h
def unVal : AV → Option V3
  | .agg [.int .i64 k, .int .i64 n, .str s] => some ⟨k, n, s⟩
  | _ => none
theorem unVal_some {a : AV} {x : V3} (h : unVal a = some x) : a = aV x := by
  unfold unVal at h
  split at h
  · injection h with h; subst h; rfl
  · cases h
theorem unVals_some : ∀ {es : List AV} {l : List V3}, es.mapM unVal = some l → es = l.map aV
  | [], l, h => by simp at h; subst h; rfl
  | a :: es, l, h => by
    rw [List.mapM_cons] at h
    cases ha : unVal a with
    | none => rw [ha] at h; cases h
    | some x =>
      cases he : es.mapM unVal with
      | none => rw [ha, he] at h; cases h
      | some xs =>
        rw [ha, he] at h
        injection h with h
        subst h
        rw [unVal_some ha, unVals_some he]; rfl
theorem unVals_mk : ∀ l : List V3, (l.map aV).mapM unVal = some l
  | [] => rfl
  | x :: l => by rw [List.map_cons, List.mapM_cons, unVals_mk l]; rfl
def s9 : Spec := fun args => match args with
  | [.sl 3 es .no, .sl 1 es' .no] => match es.mapM unVal with
    | some _ => onBytes es' fun _ => some tA
    | none => none
  | _ => none
theorem o9 (m : Int) : SpecOk PZ (GZ m) 9 s9 := spec_of (X := XW9) (m := []) mixedZ (tbl_cons (o10 m) (tbl_cons (o11a m) (tbl_cons (o24 m) (tbl_cons (o18L m) (tbl_cons (o25L m) (tbl_cons (o26 m) (tbl_cons (o16 m) tbl_nil))))))) itbl_nil fun args r h => by
  unfold s9 onBytes at h
  split at h
  · split at h
    · rename_i l hl
      split at h
      · rename_i bs hb
        injection h with h
        subst h
        rw [unVals_some hl, unBytes_some hb]
        exact ⟨_, p9 m l bs⟩
      · cases h
    · cases h
  · cases h
theorem s9_true (l0 : List V3) (l1 : List UInt8) : s9 [.sl 3 (l0.map aV) .no, bytesA l1] = some (.bool true, []) := by
  simp only [s9, unVals_mk, onBytes, unBytes_mk]
end Go.Abs

namespace Go.Abs
open Go.ChangeShapes Go.WideShapes Go.ChangeAt Go.RowKit Go.Deep Go.ChangeMaps
section
variable {H : Type} {enc : TypeId × Value → H} {P : Program} {W : World}
theorem rep_len {E : Env} {w : World} {sz : Nat} {es : List AV} {o : Own} {v : Value} (h : Rep E w (.sl sz es o) v) : es.length ≤ 9223372036854775807 := by
  cases h with | sl _ _ _ A cap u hcap hmax hA hsz hcl ho hr h1 => exact Nat.le_trans hcap hmax
/-- a package variable has the size of its type -/
theorem glob_size (hsh : W.ShapedOpen P) {g n : Nat} (hg : g < P.globals.size) (hz : (((begin P (fun _ _ => 0) default).world.heap[g]?).bind Obj.row?).map (fun x => x.1.size) = some n) : g < W.heap.size ∧ W.cell? ⟨g, n, none⟩ = none := by
  obtain ⟨h1, _⟩ := hsh
  cases hx : ((begin P (fun _ _ => 0) default).world.heap[g]?).bind Obj.row? with
  | none => rw [hx] at hz; cases hz
  | some x =>
    obtain ⟨zero, t⟩ := x
    rw [hx] at hz
    simp only [Option.map_some, Option.some.injEq] at hz
    obtain ⟨cs, hcs, hsz, _⟩ := h1 g zero t hg hx
    refine ⟨(Array.getElem?_eq_some_iff.1 hcs).1, ?_⟩
    unfold World.cell?
    simp only [hcs]
    have : cs[n]? = none := Array.getElem?_eq_none (by omega)
    simpa using this
/-- a cell that is a slice, in a struct -/
theorem cell_slA {t e : TypeId} {sz : Nat} {α : Type} [Inhabited α] {g : α → AV} (ht : P.underlying t = some (.slice e)) (hc : P.cellsOf e = sz) (hsz : 0 < sz) (hg : ∀ a, (g a).cells.length = sz ∧ (g a).closed1 = true) (hel : ElemOk P W enc e g)
    {n : Nat} {v : Value} {x : DataW H × List MemPlace} (h : DataW.trod enc P W 0 (fun _ => true) true n t [v] = some x) : ∃ l : List α, Rep (oldE W) W (.sl sz (l.map g) .no) v ∧ v.oneCell' = true := by
  have hs : ∃ A len cap, v = .slice A len cap := by
    rcases open_slice ht h with ⟨hcs, _⟩ | ⟨a', len', cap', m, n, D, Pl, hcs, _⟩
    · injection hcs with h1 _; exact ⟨_, _, _, h1⟩
    · injection hcs with h1 _; exact ⟨_, _, _, h1⟩
  obtain ⟨A, len, cap, rfl⟩ := hs
  obtain ⟨l, hl⟩ := open_slB ht hc hsz hg hel ⟨A, len, cap, rfl⟩ (d := x.1) (ps := x.2) ⟨n, by simpa [Value.cells] using h⟩
  exact ⟨l, hl, rfl⟩
theorem int_rng {n : Int} (h : (Lit.int .i64 n).wf = true) : -9223372036854775808 ≤ n ∧ n < 9223372036854775808 := by
  simp [Lit.wf, IntKind.min, IntKind.max, IntKind.signed, IntKind.bits] at h
  omega
theorem open_intA {t : TypeId} (ht : P.underlying t = some (.int .i64))
    {v : Value} {d : DataW H} {ps : List MemPlace} {b0 : Nat} (hv : Value.okWide P W .any b0 t v) (h : DataW.Trod enc P W 0 (fun _ => true) true t v d ps) : ∃ n : Int, Rep (oldE W) W (.int .i64 n) v ∧ -9223372036854775808 ≤ n ∧ n < 9223372036854775808 := by
  obtain ⟨n, rfl⟩ := okWide_int ht hv
  obtain ⟨fuel, h⟩ := h
  obtain ⟨k, e, _, hw⟩ := DataW.trod_int ht h
  simp [Value.cells] at e
  subst e
  exact ⟨n, .int _ _, int_rng hw⟩
end
end Go.Abs
