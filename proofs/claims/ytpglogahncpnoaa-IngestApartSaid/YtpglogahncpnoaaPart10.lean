/- Own texts, part 10. -/
import Derived.Test.YtpglogahncpnoaaPart9
import Derived.Test.YtpglogahncpnoaaPart3
import Derived.SizedLaws
import Derived.Test.YtpglogahncpnoaaRows
import Derived.LaidLaws
import Derived.Lay
import Derived.Shelf.Lay

namespace Go.Abs
open Go.Proofs
theorem w5 (m:Int) (l:List Int) (web:List Bool):(pureW PI (GI m) XO5 (tbl t5) (itbl [(17,s17m)]) (a5 l web) [] 5 [.sl 1 (intsA l) .no,.sl 1 (blsA web) .no] (.bool true,[])) =
(CallIs (some (AV.bool true,[])) (AV.bool true) [] ∧
  (true = true →
      (decide ((↑(intsA l).length:Int) > (60:Int)) = true→RetIs (AV.bool true) [] (AV.bool true,[])) ∧
        (decide ((↑(intsA l).length:Int) > (60:Int)) = false →
 ((∃ (l_1:List Int),intsA l = intsA l_1)∧intsA l ≠ []∧(intsA l).length≤(2000000:Nat)) ∧
 ((∃ (y:Nat),
 ValsAre
 [AV.sl ((1:Nat)) (blsA web) Own.no,AV.ms ((0:Nat)) ((11:Nat)) (intsA l).length,AV.sl ((11:Nat)) [] (Own.tok (0:Nat)),
 AV.sl ((11:Nat)) [] (Own.tok (1:Nat)),AV.int IntKind.i64 (0:Int)]
 [AV.sl ((1:Nat)) (blsA web) Own.no,AV.ms ((0:Nat)) ((11:Nat)) l.length,
 AV.sl ((11:Nat)) (pksL (seL (partA [(97:UInt8),(112:UInt8),(112:UInt8)] (List.take y (markA l web))))) (Own.tok ((0:Nat))),
 AV.sl ((11:Nat)) (pksL (seL (partA [(119:UInt8),(101:UInt8),(98:UInt8)] (List.take y (markA l web))))) (Own.tok ((1:Nat))),
 AV.int IntKind.i64 (↑y:Int)] ∧
 StIs
 { boxes:=[some [AV.tup [AV.bool true,AV.sl ((11:Nat)) (keptNums (intsA l)) Own.no]]],live:=[((0:Nat),(35:Nat)),((0:Nat),(35:Nat))] }
 { boxes:=[some [AV.tup [AV.bool true,AV.sl ((11:Nat)) (pksL (seL (List.take y (markA l web) ++ List.drop y (numP l)))) Own.no]]],live:=[(List.length (partA [(97:UInt8),(112:UInt8),(112:UInt8)] (List.take y (markA l web))),(35:Nat)),(List.length (partA [(119:UInt8),(101:UInt8),(98:UInt8)] (List.take y (markA l web))),(35:Nat))] } ∧
 y≤l.length∧True) ∧
 ∀ (x:Nat),
 x≤l.length →
 (decide ((↑x:Int) < (↑l.length:Int)) = true →
 (decide ((↑x:Int) < (↑(blsA web).length:Int)) = true →
 ((0:Int)≤(↑x:Int)∧(↑x:Int) < (↑(blsA web).length:Int)) ∧
 ∃ (b:Bool),
 takeAt PI ((4:Nat)) (blsA web) (↑x:Int).toNat ((0:Nat)) = some (AV.bool b) ∧
 (b = true →
 ((0:Int)≤(↑x:Int)∧(↑x:Int) < (↑l.length:Int)) ∧
 (↑x:Int).toNat < (pksL (seL (List.take x (markA l web) ++ List.drop x (numP l)))).length ∧
 ((0:Int)≤(↑x:Int)∧(↑x:Int) < (↑l.length:Int)) ∧
 (↑x:Int).toNat <
 ((pksL (seL (List.take x (markA l web) ++ List.drop x (numP l)))).set (↑x:Int).toNat
 (keptSetC ((pksL (seL (List.take x (markA l web) ++ List.drop x (numP l)))).getD (↑x:Int).toNat AV.junk)
 ((0:Nat)) [AV.str [(119:UInt8),(101:UInt8),(98:UInt8)]])).length ∧
 ((0:Int)≤(↑x:Int)∧(↑x:Int) < (↑l.length:Int)) ∧
 ∃ (s:List UInt8),
 ∃ (b:Bool),
 ∃ (n:Int),
 ∃ (s_1:List UInt8),
 ∃ (n_1:Int),
 ∃ (n_2:Int),
 ∃ (n_3:Int),
 ∃ (s_2:List UInt8),
 ∃ (s_3:List UInt8),
 ∃ (n_4:Int),
 ∃ (es:List AV),
 takeAt PI ((35:Nat))
 (((pksL (seL (List.take x (markA l web) ++ List.drop x (numP l)))).set
 (↑x:Int).toNat
 (keptSetC
 ((pksL (seL (List.take x (markA l web) ++ List.drop x (numP l)))).getD
 (↑x:Int).toNat AV.junk)
 ((0:Nat)) [AV.str [(119:UInt8),(101:UInt8),(98:UInt8)]])).set
 (↑x:Int).toNat
 (keptSetC
 (((pksL (seL (List.take x (markA l web) ++ List.drop x (numP l)))).set
 (↑x:Int).toNat
 (keptSetC
 ((pksL (seL (List.take x (markA l web) ++ List.drop x (numP l)))).getD
 (↑x:Int).toNat AV.junk)
 ((0:Nat)) [AV.str [(119:UInt8),(101:UInt8),(98:UInt8)]])).getD
 (↑x:Int).toNat AV.junk)
 ((3:Nat)) [AV.str [(119:UInt8),(101:UInt8),(98:UInt8)]]))
 (↑x:Int).toNat ((0:Nat)) =
 some
 (AV.agg
 [AV.str s,AV.bool b,AV.int IntKind.i64 n,AV.str s_1,AV.int IntKind.i64 n_1,
 AV.int IntKind.i64 n_2,AV.int IntKind.i64 n_3,AV.str s_2,AV.str s_3,
 AV.int IntKind.i64 n_4,AV.sl ((3:Nat)) es Own.no]) ∧
 ((11:Nat) = (11:Nat) ∨
 pksL
 (seL
 (partA [(119:UInt8),(101:UInt8),(98:UInt8)]
 (List.take x (markA l web)))) =
 []) ∧
 ((pksL
 (seL
 (partA [(119:UInt8),(101:UInt8),(98:UInt8)]
 (List.take x (markA l web))))).length +
 (1:Nat)) *
 (137:Nat) ≤
 (70368744177664:Nat) ∧
 List.length
 (partA [(119:UInt8),(101:UInt8),(98:UInt8)]
 (List.take x (markA l web))) =
 (pksL
 (seL
 (partA [(119:UInt8),(101:UInt8),(98:UInt8)]
 (List.take x (markA l web))))).length ∧
 ∃ (y:Nat),
 ValsAre
 [AV.sl ((1:Nat)) (blsA web) Own.no,
 AV.ms ((0:Nat)) ((11:Nat)) l.length,
 AV.sl ((11:Nat))
 (pksL
 (seL
 (partA [(97:UInt8),(112:UInt8),(112:UInt8)]
 (List.take x (markA l web)))))
 (Own.tok ((0:Nat))),
 AV.sl ((11:Nat))
 (pksL
 (seL
 (partA [(119:UInt8),(101:UInt8),(98:UInt8)]
 (List.take x (markA l web)))) ++
 [AV.agg
 [AV.str s,AV.bool b,AV.int IntKind.i64 n,AV.str s_1,
 AV.int IntKind.i64 n_1,AV.int IntKind.i64 n_2,
 AV.int IntKind.i64 n_3,AV.str s_2,AV.str s_3,
 AV.int IntKind.i64 n_4,AV.sl ((3:Nat)) es Own.no]])
 (Own.tok ((1:Nat))),
 AV.int IntKind.i64 (IntKind.i64.wrap ((↑x:Int) + (1:Int)))]
 [AV.sl ((1:Nat)) (blsA web) Own.no,
 AV.ms ((0:Nat)) ((11:Nat)) l.length,
 AV.sl ((11:Nat))
 (pksL
 (seL
 (partA [(97:UInt8),(112:UInt8),(112:UInt8)]
 (List.take y (markA l web)))))
 (Own.tok ((0:Nat))),
 AV.sl ((11:Nat))
 (pksL
 (seL
 (partA [(119:UInt8),(101:UInt8),(98:UInt8)]
 (List.take y (markA l web)))))
 (Own.tok ((1:Nat))),
 AV.int IntKind.i64 (↑y:Int)] ∧
 StIs
 { boxes:=[some [AV.tup [AV.bool true,AV.sl ((11:Nat)) (((pksL (seL (List.take x (markA l web) ++ List.drop x (numP l)))).set (↑x:Int).toNat (keptSetC ((pksL (seL (List.take x (markA l web) ++ List.drop x (numP l)))).getD (↑x:Int).toNat AV.junk) ((0:Nat)) [AV.str [(119:UInt8),(101:UInt8),(98:UInt8)]])).set (↑x:Int).toNat (keptSetC (((pksL (seL (List.take x (markA l web) ++ List.drop x (numP l)))).set (↑x:Int).toNat (keptSetC ((pksL (seL (List.take x (markA l web) ++ List.drop x (numP l)))).getD (↑x:Int).toNat AV.junk) ((0:Nat)) [AV.str [(119:UInt8),(101:UInt8),(98:UInt8)]])).getD (↑x:Int).toNat AV.junk) ((3:Nat)) [AV.str [(119:UInt8),(101:UInt8),(98:UInt8)]])) Own.no]]],live:=[(List.length (partA [(97:UInt8),(112:UInt8),(112:UInt8)] (List.take x (markA l web))),(35:Nat)),((pksL (seL (partA [(119:UInt8),(101:UInt8),(98:UInt8)] (List.take x (markA l web))))).length + (1:Nat),(35:Nat))] }
 { boxes:=[some [AV.tup [AV.bool true,AV.sl ((11:Nat)) (pksL (seL (List.take y (markA l web) ++ List.drop y (numP l)))) Own.no]]],live:=[(List.length (partA [(97:UInt8),(112:UInt8),(112:UInt8)] (List.take y (markA l web))),(35:Nat)),(List.length (partA [(119:UInt8),(101:UInt8),(98:UInt8)] (List.take y (markA l web))),(35:Nat))] } ∧
 y≤l.length∧l.length - y < l.length - x) ∧
 (b = false →
 ((0:Int)≤(↑x:Int)∧(↑x:Int) < (↑l.length:Int)) ∧
 ∃ (s:List UInt8),
 ∃ (b:Bool),
 ∃ (n:Int),
 ∃ (s_1:List UInt8),
 ∃ (n_1:Int),
 ∃ (n_2:Int),
 ∃ (n_3:Int),
 ∃ (s_2:List UInt8),
 ∃ (s_3:List UInt8),
 ∃ (n_4:Int),
 ∃ (es:List AV),
 takeAt PI ((35:Nat)) (pksL (seL (List.take x (markA l web) ++ List.drop x (numP l))))
 (↑x:Int).toNat ((0:Nat)) =
 some
 (AV.agg
 [AV.str s,AV.bool b,AV.int IntKind.i64 n,AV.str s_1,AV.int IntKind.i64 n_1,
 AV.int IntKind.i64 n_2,AV.int IntKind.i64 n_3,AV.str s_2,AV.str s_3,
 AV.int IntKind.i64 n_4,AV.sl ((3:Nat)) es Own.no]) ∧
 ((11:Nat) = (11:Nat) ∨
 pksL
 (seL (partA [(97:UInt8),(112:UInt8),(112:UInt8)] (List.take x (markA l web)))) =
 []) ∧
 ((pksL
 (seL
 (partA [(97:UInt8),(112:UInt8),(112:UInt8)]
 (List.take x (markA l web))))).length +
 (1:Nat)) *
 (137:Nat) ≤
 (70368744177664:Nat) ∧
 List.length
 (partA [(97:UInt8),(112:UInt8),(112:UInt8)] (List.take x (markA l web))) =
 (pksL
 (seL
 (partA [(97:UInt8),(112:UInt8),(112:UInt8)]
 (List.take x (markA l web))))).length ∧
 ∃ (y:Nat),
 ValsAre
 [AV.sl ((1:Nat)) (blsA web) Own.no,AV.ms ((0:Nat)) ((11:Nat)) l.length,
 AV.sl ((11:Nat))
 (pksL
 (seL
 (partA [(97:UInt8),(112:UInt8),(112:UInt8)]
 (List.take x (markA l web)))) ++
 [AV.agg
 [AV.str s,AV.bool b,AV.int IntKind.i64 n,AV.str s_1,
 AV.int IntKind.i64 n_1,AV.int IntKind.i64 n_2,AV.int IntKind.i64 n_3,
 AV.str s_2,AV.str s_3,AV.int IntKind.i64 n_4,
 AV.sl ((3:Nat)) es Own.no]])
 (Own.tok ((0:Nat))),
 AV.sl ((11:Nat))
 (pksL
 (seL
 (partA [(119:UInt8),(101:UInt8),(98:UInt8)]
 (List.take x (markA l web)))))
 (Own.tok ((1:Nat))),
 AV.int IntKind.i64 (IntKind.i64.wrap ((↑x:Int) + (1:Int)))]
 [AV.sl ((1:Nat)) (blsA web) Own.no,AV.ms ((0:Nat)) ((11:Nat)) l.length,
 AV.sl ((11:Nat))
 (pksL
 (seL
 (partA [(97:UInt8),(112:UInt8),(112:UInt8)]
 (List.take y (markA l web)))))
 (Own.tok ((0:Nat))),
 AV.sl ((11:Nat))
 (pksL
 (seL
 (partA [(119:UInt8),(101:UInt8),(98:UInt8)]
 (List.take y (markA l web)))))
 (Own.tok ((1:Nat))),
 AV.int IntKind.i64 (↑y:Int)] ∧
 StIs
 { boxes:=[some [AV.tup [AV.bool true,AV.sl ((11:Nat)) (pksL (seL (List.take x (markA l web) ++ List.drop x (numP l)))) Own.no]]],live:=[((pksL (seL (partA [(97:UInt8),(112:UInt8),(112:UInt8)] (List.take x (markA l web))))).length + (1:Nat),(35:Nat)),(List.length (partA [(119:UInt8),(101:UInt8),(98:UInt8)] (List.take x (markA l web))),(35:Nat))] }
 { boxes:=[some [AV.tup [AV.bool true,AV.sl ((11:Nat)) (pksL (seL (List.take y (markA l web) ++ List.drop y (numP l)))) Own.no]]],live:=[(List.length (partA [(97:UInt8),(112:UInt8),(112:UInt8)] (List.take y (markA l web))),(35:Nat)),(List.length (partA [(119:UInt8),(101:UInt8),(98:UInt8)] (List.take y (markA l web))),(35:Nat))] } ∧
 y≤l.length∧l.length - y < l.length - x)) ∧
 (decide ((↑x:Int) < (↑(blsA web).length:Int)) = false →
 ((0:Int)≤(↑x:Int)∧(↑x:Int) < (↑l.length:Int)) ∧
 ∃ (s:List UInt8),
 ∃ (b:Bool),
 ∃ (n:Int),
 ∃ (s_1:List UInt8),
 ∃ (n_1:Int),
 ∃ (n_2:Int),
 ∃ (n_3:Int),
 ∃ (s_2:List UInt8),
 ∃ (s_3:List UInt8),
 ∃ (n_4:Int),
 ∃ (es:List AV),
 takeAt PI ((35:Nat)) (pksL (seL (List.take x (markA l web) ++ List.drop x (numP l)))) (↑x:Int).toNat
 ((0:Nat)) =
 some
 (AV.agg
 [AV.str s,AV.bool b,AV.int IntKind.i64 n,AV.str s_1,AV.int IntKind.i64 n_1,
 AV.int IntKind.i64 n_2,AV.int IntKind.i64 n_3,AV.str s_2,AV.str s_3,AV.int IntKind.i64 n_4,
 AV.sl ((3:Nat)) es Own.no]) ∧
 ((11:Nat) = (11:Nat) ∨
 pksL (seL (partA [(97:UInt8),(112:UInt8),(112:UInt8)] (List.take x (markA l web)))) = []) ∧
 ((pksL (seL (partA [(97:UInt8),(112:UInt8),(112:UInt8)] (List.take x (markA l web))))).length +
 (1:Nat)) *
 (137:Nat) ≤
 (70368744177664:Nat) ∧
 List.length (partA [(97:UInt8),(112:UInt8),(112:UInt8)] (List.take x (markA l web))) =
 (pksL
 (seL
 (partA [(97:UInt8),(112:UInt8),(112:UInt8)] (List.take x (markA l web))))).length ∧
 ∃ (y:Nat),
 ValsAre
 [AV.sl ((1:Nat)) (blsA web) Own.no,AV.ms ((0:Nat)) ((11:Nat)) l.length,
 AV.sl ((11:Nat))
 (pksL
 (seL
 (partA [(97:UInt8),(112:UInt8),(112:UInt8)] (List.take x (markA l web)))) ++
 [AV.agg
 [AV.str s,AV.bool b,AV.int IntKind.i64 n,AV.str s_1,AV.int IntKind.i64 n_1,
 AV.int IntKind.i64 n_2,AV.int IntKind.i64 n_3,AV.str s_2,AV.str s_3,
 AV.int IntKind.i64 n_4,AV.sl ((3:Nat)) es Own.no]])
 (Own.tok ((0:Nat))),
 AV.sl ((11:Nat))
 (pksL
 (seL (partA [(119:UInt8),(101:UInt8),(98:UInt8)] (List.take x (markA l web)))))
 (Own.tok ((1:Nat))),
 AV.int IntKind.i64 (IntKind.i64.wrap ((↑x:Int) + (1:Int)))]
 [AV.sl ((1:Nat)) (blsA web) Own.no,AV.ms ((0:Nat)) ((11:Nat)) l.length,
 AV.sl ((11:Nat))
 (pksL
 (seL (partA [(97:UInt8),(112:UInt8),(112:UInt8)] (List.take y (markA l web)))))
 (Own.tok ((0:Nat))),
 AV.sl ((11:Nat))
 (pksL
 (seL (partA [(119:UInt8),(101:UInt8),(98:UInt8)] (List.take y (markA l web)))))
 (Own.tok ((1:Nat))),
 AV.int IntKind.i64 (↑y:Int)] ∧
 StIs
 { boxes:=[some [AV.tup [AV.bool true,AV.sl ((11:Nat)) (pksL (seL (List.take x (markA l web) ++ List.drop x (numP l)))) Own.no]]],live:=[((pksL (seL (partA [(97:UInt8),(112:UInt8),(112:UInt8)] (List.take x (markA l web))))).length + (1:Nat),(35:Nat)),(List.length (partA [(119:UInt8),(101:UInt8),(98:UInt8)] (List.take x (markA l web))),(35:Nat))] }
 { boxes:=[some [AV.tup [AV.bool true,AV.sl ((11:Nat)) (pksL (seL (List.take y (markA l web) ++ List.drop y (numP l)))) Own.no]]],live:=[(List.length (partA [(97:UInt8),(112:UInt8),(112:UInt8)] (List.take y (markA l web))),(35:Nat)),(List.length (partA [(119:UInt8),(101:UInt8),(98:UInt8)] (List.take y (markA l web))),(35:Nat))] } ∧
 y≤l.length∧l.length - y < l.length - x)) ∧
 (decide ((↑x:Int) < (↑l.length:Int)) = false →
 (pksL (seL (List.take x (markA l web) ++ List.drop x (numP l)))).length = l.length ∧
 ∃ (_y:Unit),
 ValsAre
 [AV.sl ((11:Nat)) (pksL (seL (List.take x (markA l web) ++ List.drop x (numP l)))) Own.no,
 AV.sl ((11:Nat)) (pksL (seL (partA [(97:UInt8),(112:UInt8),(112:UInt8)] (List.take x (markA l web))))) Own.no,
 AV.sl ((11:Nat)) (pksL (seL (partA [(119:UInt8),(101:UInt8),(98:UInt8)] (List.take x (markA l web))))) Own.no]
 [AV.sl ((11:Nat)) (pksL (seL (markA l web))) Own.no,
 AV.sl ((11:Nat)) (pksL (seL (partA [(97:UInt8),(112:UInt8),(112:UInt8)] (markA l web)))) Own.no,
 AV.sl ((11:Nat)) (pksL (seL (partA [(119:UInt8),(101:UInt8),(98:UInt8)] (markA l web)))) Own.no] ∧
 StIs
 { boxes:=[some [AV.tup [AV.bool false,AV.sl ((11:Nat)) (pksL (seL (List.take x (markA l web) ++ List.drop x (numP l)))) Own.no]]],live:=[] }
 { boxes:=[some [AV.tup [AV.bool false,AV.sl ((11:Nat)) (pksL (seL (markA l web))) Own.no]]],live:=[] } ∧
 True∧True)) ∧
 ∀ (_x:Unit),
 True →
 True →
 ∃ (es:List AV),
 ∃ (n:Int),
 CallIs
 (tbl
 [((7:Nat),s7),((17:Nat),s17),((18:Nat),fun (args:List AV)=>s18 (List.map wk1 args)),
 ((13:Nat),fun (args:List AV)=>s13 (List.map wk1 args))]
 ((18:Nat)) [AV.agg [AV.sl ((0:Nat)) [] Own.nil],AV.sl ((11:Nat)) (pksL (seL (markA l web))) Own.no])
 (AV.tup [AV.agg [AV.sl ((3:Nat)) es Own.no],AV.int IntKind.i64 n,AV.bool true]) [] ∧
 (true = true →
 ∃ (es_1:List AV),
 ∃ (n_1:Int),
 CallIs
 (tbl
 [((7:Nat),s7),((17:Nat),s17),((18:Nat),fun (args:List AV)=>s18 (List.map wk1 args)),
 ((13:Nat),fun (args:List AV)=>s13 (List.map wk1 args))]
 ((18:Nat))
 [AV.agg [AV.sl ((0:Nat)) [] Own.nil],
 AV.sl ((11:Nat)) (pksL (seL (partA [(97:UInt8),(112:UInt8),(112:UInt8)] (markA l web)))) Own.no])
 (AV.tup [AV.agg [AV.sl ((3:Nat)) es_1 Own.no],AV.int IntKind.i64 n_1,AV.bool true]) [] ∧
 (true = true →
 ∃ (es_2:List AV),
 ∃ (n_2:Int),
 CallIs
 (tbl
 [((7:Nat),s7),((17:Nat),s17),((18:Nat),fun (args:List AV)=>s18 (List.map wk1 args)),
 ((13:Nat),fun (args:List AV)=>s13 (List.map wk1 args))]
 ((18:Nat))
 [AV.agg [AV.sl ((0:Nat)) [] Own.nil],
 AV.sl ((11:Nat)) (pksL (seL (partA [(119:UInt8),(101:UInt8),(98:UInt8)] (markA l web)))) Own.no])
 (AV.tup [AV.agg [AV.sl ((3:Nat)) es_2 Own.no],AV.int IntKind.i64 n_2,AV.bool true]) [] ∧
 (true = true →
 ((3:Nat) = (3:Nat)∨([]:List AV) = []) ∧
 ((0:Nat) + es_1.length) * (49:Nat)≤(70368744177664:Nat) ∧
 (es_1 = [] →
 ((3:Nat) = (3:Nat)∨([]:List AV) = []) ∧
 ((0:Nat) + es_2.length) * (49:Nat)≤(70368744177664:Nat) ∧
 (es_2 = [] →
 ((n == IntKind.i64.wrap (n_1 + n_2)) = true →
 CallIs
 (tbl
 [((7:Nat),s7),((17:Nat),s17),
 ((18:Nat),fun (args:List AV)=>s18 (List.map wk1 args)),
 ((13:Nat),fun (args:List AV)=>s13 (List.map wk1 args))]
 ((13:Nat))
 [AV.agg [AV.sl ((3:Nat)) es Own.no],AV.agg [AV.sl ((3:Nat)) [] Own.full]])
 (AV.bool true) [] ∧
 (true = true→RetIs (AV.bool true) [] (AV.bool true,[])) ∧
 (true = false→RetIs (AV.bool false) [] (AV.bool true,[]))) ∧
 ((n == IntKind.i64.wrap (n_1 + n_2)) = false →
 RetIs (AV.bool false) [] (AV.bool true,[]))) ∧
 (es_2 ≠ [] →
 ((n == IntKind.i64.wrap (n_1 + n_2)) = true →
 CallIs
 (tbl
 [((7:Nat),s7),((17:Nat),s17),
 ((18:Nat),fun (args:List AV)=>s18 (List.map wk1 args)),
 ((13:Nat),fun (args:List AV)=>s13 (List.map wk1 args))]
 ((13:Nat))
 [AV.agg [AV.sl ((3:Nat)) es Own.no],
 AV.agg [AV.sl ((3:Nat)) ([] ++ es_2) Own.no]])
 (AV.bool true) [] ∧
 (true = true→RetIs (AV.bool true) [] (AV.bool true,[])) ∧
 (true = false→RetIs (AV.bool false) [] (AV.bool true,[]))) ∧
 ((n == IntKind.i64.wrap (n_1 + n_2)) = false →
 RetIs (AV.bool false) [] (AV.bool true,[])))) ∧
 (es_1 ≠ [] →
 ((3:Nat) = (3:Nat)∨[] ++ es_1 = []) ∧
 (([] ++ es_1).length + es_2.length) * (49:Nat)≤(70368744177664:Nat) ∧
 (0:Nat) + es_1.length = ([] ++ es_1).length ∧
 ((n == IntKind.i64.wrap (n_1 + n_2)) = true →
 CallIs
 (tbl
 [((7:Nat),s7),((17:Nat),s17),
 ((18:Nat),fun (args:List AV)=>s18 (List.map wk1 args)),
 ((13:Nat),fun (args:List AV)=>s13 (List.map wk1 args))]
 ((13:Nat))
 [AV.agg [AV.sl ((3:Nat)) es Own.no],
 AV.agg [AV.sl ((3:Nat)) ([] ++ es_1 ++ es_2) Own.no]])
 (AV.bool true) [] ∧
 (true = true→RetIs (AV.bool true) [] (AV.bool true,[])) ∧
 (true = false→RetIs (AV.bool false) [] (AV.bool true,[]))) ∧
 ((n == IntKind.i64.wrap (n_1 + n_2)) = false →
 RetIs (AV.bool false) [] (AV.bool true,[])))) ∧
 (true = false →
 ((3:Nat) = (3:Nat)∨([]:List AV) = []) ∧
 ((0:Nat) + es_1.length) * (49:Nat)≤(70368744177664:Nat) ∧
 (es_1 = [] →
 ((3:Nat) = (3:Nat)∨([]:List AV) = []) ∧
 ((0:Nat) + es_2.length) * (49:Nat)≤(70368744177664:Nat) ∧
 (es_2 = []→RetIs (AV.bool false) [] (AV.bool true,[])) ∧
 (es_2 ≠ []→RetIs (AV.bool false) [] (AV.bool true,[]))) ∧
 (es_1 ≠ [] →
 ((3:Nat) = (3:Nat)∨[] ++ es_1 = []) ∧
 (([] ++ es_1).length + es_2.length) * (49:Nat)≤(70368744177664:Nat) ∧
 (0:Nat) + es_1.length = ([] ++ es_1).length∧RetIs (AV.bool false) [] (AV.bool true,[])))) ∧
 (true = false →
 ∃ (es:List AV),
 ∃ (n:Int),
 CallIs
 (tbl
 [((7:Nat),s7),((17:Nat),s17),((18:Nat),fun (args:List AV)=>s18 (List.map wk1 args)),
 ((13:Nat),fun (args:List AV)=>s13 (List.map wk1 args))]
 ((18:Nat))
 [AV.agg [AV.sl ((0:Nat)) [] Own.nil],
 AV.sl ((11:Nat)) (pksL (seL (partA [(119:UInt8),(101:UInt8),(98:UInt8)] (markA l web)))) Own.no])
 (AV.tup [AV.agg [AV.sl ((3:Nat)) es Own.no],AV.int IntKind.i64 n,AV.bool true]) [] ∧
 (true = true →
 ((3:Nat) = (3:Nat)∨([]:List AV) = []) ∧
 ((0:Nat) + es_1.length) * (49:Nat)≤(70368744177664:Nat) ∧
 (es_1 = [] →
 ((3:Nat) = (3:Nat)∨([]:List AV) = []) ∧
 ((0:Nat) + es.length) * (49:Nat)≤(70368744177664:Nat) ∧
 (es = []→RetIs (AV.bool false) [] (AV.bool true,[])) ∧
 (es ≠ []→RetIs (AV.bool false) [] (AV.bool true,[]))) ∧
 (es_1 ≠ [] →
 ((3:Nat) = (3:Nat)∨[] ++ es_1 = []) ∧
 (([] ++ es_1).length + es.length) * (49:Nat)≤(70368744177664:Nat) ∧
 (0:Nat) + es_1.length = ([] ++ es_1).length∧RetIs (AV.bool false) [] (AV.bool true,[]))) ∧
 (true = false →
 ((3:Nat) = (3:Nat)∨([]:List AV) = []) ∧
 ((0:Nat) + es_1.length) * (49:Nat)≤(70368744177664:Nat) ∧
 (es_1 = [] →
 ((3:Nat) = (3:Nat)∨([]:List AV) = []) ∧
 ((0:Nat) + es.length) * (49:Nat)≤(70368744177664:Nat) ∧
 (es = []→RetIs (AV.bool false) [] (AV.bool true,[])) ∧
 (es ≠ []→RetIs (AV.bool false) [] (AV.bool true,[]))) ∧
 (es_1 ≠ [] →
 ((3:Nat) = (3:Nat)∨[] ++ es_1 = []) ∧
 (([] ++ es_1).length + es.length) * (49:Nat)≤(70368744177664:Nat) ∧
 (0:Nat) + es_1.length = ([] ++ es_1).length∧RetIs (AV.bool false) [] (AV.bool true,[]))))) ∧
 (true = false →
 ∃ (es:List AV),
 ∃ (n:Int),
 CallIs
 (tbl
 [((7:Nat),s7),((17:Nat),s17),((18:Nat),fun (args:List AV)=>s18 (List.map wk1 args)),
 ((13:Nat),fun (args:List AV)=>s13 (List.map wk1 args))]
 ((18:Nat))
 [AV.agg [AV.sl ((0:Nat)) [] Own.nil],
 AV.sl ((11:Nat)) (pksL (seL (partA [(97:UInt8),(112:UInt8),(112:UInt8)] (markA l web)))) Own.no])
 (AV.tup [AV.agg [AV.sl ((3:Nat)) es Own.no],AV.int IntKind.i64 n,AV.bool true]) [] ∧
 (true = true →
 ∃ (es_1:List AV),
 ∃ (n:Int),
 CallIs
 (tbl
 [((7:Nat),s7),((17:Nat),s17),((18:Nat),fun (args:List AV)=>s18 (List.map wk1 args)),
 ((13:Nat),fun (args:List AV)=>s13 (List.map wk1 args))]
 ((18:Nat))
 [AV.agg [AV.sl ((0:Nat)) [] Own.nil],
 AV.sl ((11:Nat)) (pksL (seL (partA [(119:UInt8),(101:UInt8),(98:UInt8)] (markA l web)))) Own.no])
 (AV.tup [AV.agg [AV.sl ((3:Nat)) es_1 Own.no],AV.int IntKind.i64 n,AV.bool true]) [] ∧
 (true = true →
 ((3:Nat) = (3:Nat)∨([]:List AV) = []) ∧
 ((0:Nat) + es.length) * (49:Nat)≤(70368744177664:Nat) ∧
 (es = [] →
 ((3:Nat) = (3:Nat)∨([]:List AV) = []) ∧
 ((0:Nat) + es_1.length) * (49:Nat)≤(70368744177664:Nat) ∧
 (es_1 = []→RetIs (AV.bool false) [] (AV.bool true,[])) ∧
 (es_1 ≠ []→RetIs (AV.bool false) [] (AV.bool true,[]))) ∧
 (es ≠ [] →
 ((3:Nat) = (3:Nat)∨[] ++ es = []) ∧
 (([] ++ es).length + es_1.length) * (49:Nat)≤(70368744177664:Nat) ∧
 (0:Nat) + es.length = ([] ++ es).length∧RetIs (AV.bool false) [] (AV.bool true,[]))) ∧
 (true = false →
 ((3:Nat) = (3:Nat)∨([]:List AV) = []) ∧
 ((0:Nat) + es.length) * (49:Nat)≤(70368744177664:Nat) ∧
 (es = [] →
 ((3:Nat) = (3:Nat)∨([]:List AV) = []) ∧
 ((0:Nat) + es_1.length) * (49:Nat)≤(70368744177664:Nat) ∧
 (es_1 = []→RetIs (AV.bool false) [] (AV.bool true,[])) ∧
 (es_1 ≠ []→RetIs (AV.bool false) [] (AV.bool true,[]))) ∧
 (es ≠ [] →
 ((3:Nat) = (3:Nat)∨[] ++ es = []) ∧
 (([] ++ es).length + es_1.length) * (49:Nat)≤(70368744177664:Nat) ∧
 (0:Nat) + es.length = ([] ++ es).length∧RetIs (AV.bool false) [] (AV.bool true,[])))) ∧
 (true = false →
 ∃ (es_1:List AV),
 ∃ (n:Int),
 CallIs
 (tbl
 [((7:Nat),s7),((17:Nat),s17),((18:Nat),fun (args:List AV)=>s18 (List.map wk1 args)),
 ((13:Nat),fun (args:List AV)=>s13 (List.map wk1 args))]
 ((18:Nat))
 [AV.agg [AV.sl ((0:Nat)) [] Own.nil],
 AV.sl ((11:Nat)) (pksL (seL (partA [(119:UInt8),(101:UInt8),(98:UInt8)] (markA l web)))) Own.no])
 (AV.tup [AV.agg [AV.sl ((3:Nat)) es_1 Own.no],AV.int IntKind.i64 n,AV.bool true]) [] ∧
 (true = true →
 ((3:Nat) = (3:Nat)∨([]:List AV) = []) ∧
 ((0:Nat) + es.length) * (49:Nat)≤(70368744177664:Nat) ∧
 (es = [] →
 ((3:Nat) = (3:Nat)∨([]:List AV) = []) ∧
 ((0:Nat) + es_1.length) * (49:Nat)≤(70368744177664:Nat) ∧
 (es_1 = []→RetIs (AV.bool false) [] (AV.bool true,[])) ∧
 (es_1 ≠ []→RetIs (AV.bool false) [] (AV.bool true,[]))) ∧
 (es ≠ [] →
 ((3:Nat) = (3:Nat)∨[] ++ es = []) ∧
 (([] ++ es).length + es_1.length) * (49:Nat)≤(70368744177664:Nat) ∧
 (0:Nat) + es.length = ([] ++ es).length∧RetIs (AV.bool false) [] (AV.bool true,[]))) ∧
 (true = false →
 ((3:Nat) = (3:Nat)∨([]:List AV) = []) ∧
 ((0:Nat) + es.length) * (49:Nat)≤(70368744177664:Nat) ∧
 (es = [] →
 ((3:Nat) = (3:Nat)∨([]:List AV) = []) ∧
 ((0:Nat) + es_1.length) * (49:Nat)≤(70368744177664:Nat) ∧
 (es_1 = []→RetIs (AV.bool false) [] (AV.bool true,[])) ∧
 (es_1 ≠ []→RetIs (AV.bool false) [] (AV.bool true,[]))) ∧
 (es ≠ [] →
 ((3:Nat) = (3:Nat)∨[] ++ es = []) ∧
 (([] ++ es).length + es_1.length) * (49:Nat)≤(70368744177664:Nat) ∧
 (0:Nat) + es.length = ([] ++ es).length∧RetIs (AV.bool false) [] (AV.bool true,[]))))))) ∧
    (true = false→RetIs (AV.bool false) [] (AV.bool true,[]))):=by kernel_rfl
end Go.Abs
namespace Go.Abs
open Go.Proofs Go.RowKit
/-! the marked numbers -/
theorem marks1_at (web:List Bool):∀ (ps:Arr) (k i:Nat),(marks1 web k ps)[i]? = (ps[i]?).map fun p=>if webAt web (k + i) then (webN,p.2) else p
 | [],k,i=>by simp [marks1]
 | p :: ps,k,0=>by simp [marks1]
 | p :: ps,k,i + 1=>by
  simp only [marks1,List.getElem?_cons_succ]
  rw [marks1_at web ps (k + 1) i,show k + 1 + i = k + (i + 1) by omega]
theorem marks1_len (web:List Bool):∀ (ps:Arr) (k:Nat),(marks1 web k ps).length = ps.length
 | [],k=>rfl
 | p :: ps,k=>by simp [marks1,marks1_len web ps (k + 1)]
theorem markA_len (l:List Int) (web:List Bool):(markA l web).length = l.length:=by unfold markA; rw [marks1_len,numP_len]
theorem markA_at {l:List Int} {web:List Bool} {i:Nat} (h:i < l.length):(markA l web)[i]? = some (if webAt web i then webN else appN,numN l[i]):=by
 unfold markA
 rw [marks1_at,Nat.zero_add]
 simp only [numP,List.getElem?_map,List.getElem?_eq_getElem h,Option.map_some]
 split <;> rfl
theorem numP_at {l:List Int} {i:Nat} (h:i < l.length):(numP l)[i]? = some (appN,numN l[i]):=by
 simp [numP,h]
theorem markA_ok {l:List Int} {web:List Bool} (hl:l.length≤60):OkPs (markA l web):=⟨by rw [markA_len]; omega,fun p hp=>by
 obtain ⟨i,hi⟩:=List.mem_iff_getElem?.1 hp
 have hil:i < l.length:=by rw [← markA_len l web]; exact (List.getElem?_eq_some_iff.1 hi).1
 rw [markA_at hil] at hi
 injection hi with hi; subst hi
 refine ⟨?_,numN_rng _⟩
 show (if webAt web i then webN else appN) = appN∨(if webAt web i then webN else appN) = webN
 split
 ·exact .inr rfl
 ·exact .inl rfl⟩
theorem mem_part {s:List UInt8} {M:Arr} {p:List UInt8 × Int}:p ∈ partA s M ↔ p ∈ M∧p.1 = s:=by simp [partA]
theorem part_ok {s:List UInt8} {M:Arr} (h:OkPs M):OkPs (partA s M):=⟨Nat.le_trans (List.length_filter_le ..) h.len,fun p hp=>h.all p (mem_part.1 hp).1⟩
theorem part_snoc {s:List UInt8} {M:Arr} {p:List UInt8 × Int}:partA s (M ++ [p]) = partA s M ++ (if p.1 = s then [p] else []):=by
 unfold partA
 rw [List.filter_append]
 congr 1
 by_cases h:p.1 = s <;> simp [h]
theorem app_ne:appN ≠ webN:=by decide
theorem app_lt:appN < webN:=by decide
theorem apart_all {M:Arr} (h:OkPs M):allS M = allS (partA appN M) ++ allS (partA webN M):=by
 have hA:=can_all (part_ok (s:=appN) h)
 have hB:=can_all (part_ok (s:=webN) h)
 have sA:∀ b ∈ allS (partA appN M),b.src = appN:=fun b hb=>by
  obtain ⟨n,hn⟩:=(hA.src b.src).1 ⟨b,hb,rfl⟩
  exact (mem_part.1 hn).2
 have sB:∀ b ∈ allS (partA webN M),b.src = webN:=fun b hb=>by
  obtain ⟨n,hn⟩:=(hB.src b.src).1 ⟨b,hb,rfl⟩
  exact (mem_part.1 hn).2
 refine (can_all h).ext ⟨List.pairwise_append.2 ⟨hA.asc,hB.asc,fun a ha b hb=>by rw [sA a ha,sB b hb]; exact app_lt⟩,fun b hb=>?_,fun s=>?_⟩
 ·rcases List.mem_append.1 hb with hb | hb
  ·exact (hA.box b hb).congr fun k=>by rw [mem_part]; simp [sA b hb]
  ·exact (hB.box b hb).congr fun k=>by rw [mem_part]; simp [sB b hb]
 ·constructor
  ·rintro ⟨b,hb,rfl⟩
   rcases List.mem_append.1 hb with hb | hb
   ·obtain ⟨n,hn⟩:=(hA.src b.src).1 ⟨b,hb,rfl⟩
    exact ⟨n,(mem_part.1 hn).1⟩
   ·obtain ⟨n,hn⟩:=(hB.src b.src).1 ⟨b,hb,rfl⟩
    exact ⟨n,(mem_part.1 hn).1⟩
  ·rintro ⟨n,hn⟩
   rcases (h.all _ hn).1 with e | e
   ·obtain ⟨b,hb,e2⟩:=(hA.src s).2 ⟨n,mem_part.2 ⟨hn,e⟩⟩
    exact ⟨b,List.mem_append_left _ hb,e2⟩
   ·obtain ⟨b,hb,e2⟩:=(hB.src s).2 ⟨n,mem_part.2 ⟨hn,e⟩⟩
    exact ⟨b,List.mem_append_right _ hb,e2⟩
theorem cnt_part {M:Arr} {s:List UInt8}:cntS (partA s M) = ((uniq id M).filter fun p=>decide (p.1 = s)).length:=by
 have hnd:((uniq id M).filter fun p=>decide (p.1 = s)).Nodup:=uniq_nodup.sublist List.filter_sublist
 refine Nat.le_antisymm (nodup_len uniq_nodup fun x hx=>?_) (nodup_len hnd fun x hx=>?_)
 ·obtain ⟨e,he,rfl⟩:=uniq_mem.1 hx
  have:=mem_part.1 he
  exact List.mem_filter.2 ⟨uniq_mem.2 ⟨e,this.1,rfl⟩,by simpa using this.2⟩
 ·obtain ⟨h1,h2⟩:=List.mem_filter.1 hx
  obtain ⟨e,he,rfl⟩:=uniq_mem.1 h1
  exact uniq_mem.2 ⟨e,mem_part.2 ⟨he,by simpa using h2⟩,rfl⟩
theorem filter_two:∀ {L:Arr},(∀ p ∈ L,p.1 = appN∨p.1 = webN)→L.length = (L.filter fun p=>decide (p.1 = appN)).length + (L.filter fun p=>decide (p.1 = webN)).length
 | [],_=>rfl
 | p :: L,h=>by
  have ih:=filter_two (L:=L) fun q hq=>h q (by simp [hq])
  rcases h p (by simp) with e | e
  ·rw [List.filter_cons_of_pos (by simp [e]),List.filter_cons_of_neg (by simp [e])]
   simp only [List.length_cons]; omega
  ·rw [List.filter_cons_of_neg (by simp [e]),List.filter_cons_of_pos (by simp [e])]
   simp only [List.length_cons]; omega
theorem apart_cnt {M:Arr} (h:OkPs M):cntS M = cntS (partA appN M) + cntS (partA webN M):=by
 rw [cnt_part,cnt_part]
 exact filter_two fun p hp=>by
  obtain ⟨e,he,rfl⟩:=uniq_mem.1 hp
  exact (h.all e he).1
/-! calls -/
theorem c18w {ps:Arr} (h:OkPs ps) {o:Own} {l:List (FuncId × Spec)}:tbl ((18,fun args=>s18 (args.map wk1)) :: l) 18 [.agg [.sl 0 [] o],.sl 11 (pksL (seL ps)) .no] = some (.tup [rcA (allS ps),.int .i64 (cntS ps),.bool true],[]):=by
 rw [tbl_hit]
 have hu:unL unS (pksL (seL ps)) = some ps:=by
  rw [pksL,seL,List.map_map]
  exact unL_map (g:=fun p=>pkA (sentP p)) unS_ok ps
 cases ps with
 | nil=>rfl
 | cons p ps =>
  show s18 [.agg [.sl 3 [] .no],.sl 11 (pksL (seL (p :: ps))) .no] = _
  have h2:=okPs_iff.2 h
  simp only [s18,hu,h2,true_or,and_self,if_true]
theorem wk_bxs (r:List BxI):wk0 (.sl 3 (bxsL r) .no) = .sl 3 (bxsL r) .no:=by
 cases r with
 | nil=>rfl
 | cons b r=>rfl
theorem rcv_small {r:List BxI} (h:RcvP r):r.length≤140737488351232∧(r.all fun b=>decide (b.ahead.length≤140737488351232)) = true:=by
 refine ⟨by have:=h.len; omega,List.all_eq_true.2 fun b hb=>?_⟩
 have:=(h.box b hb).len
 simp; omega
theorem c13w {r:List BxI} (h:RcvP r) {l:List (FuncId × Spec)}:tbl ((13,fun args=>s13 (args.map wk1)) :: l) 13 [.agg [.sl 3 (bxsL r) .no],.agg [.sl 3 (bxsL r) .no]] = some (.bool true,[]):=by
 rw [tbl_hit]
 show s13 [.agg [wk0 (.sl 3 (bxsL r) .no)],.agg [wk0 (.sl 3 (bxsL r) .no)]] = _
 rw [wk_bxs]
 obtain ⟨h1,h2⟩:=rcv_small h
 simp only [s13,and_self,if_true,unBs_ok]
 rw [if_pos ⟨h1,h2⟩]; simp
theorem take_bl {l:List Bool} {i:Nat} {b:Bool} (h:l[i]? = some b):takeAt PI 4 (blsA l) i 0 = some (.bool b):=by
 have h1:aggA PI 4 = some false:=by kernel_rfl
 have h2:sizeA PI 4 = some 1:=by kernel_rfl
 simp only [takeAt,List.getElem?_map,h,Option.map_some,takeA,h1,h2]
 rfl
theorem two_sets {es:List AV} {x:Nat} {p:List UInt8 × Int} (h:es[x]? = some (pkA (sentP p))) :
  (es.set x (keptSetC (es.getD x .junk) 0 [.str webN])).set x (keptSetC ((es.set x (keptSetC (es.getD x .junk) 0 [.str webN])).getD x .junk) 3 [.str webN]) = es.set x (pkA (sentP (webN,p.2))):=by
 have hx:x < es.length:=(List.getElem?_eq_some_iff.1 h).1
 have h1:es.getD x .junk = pkA (sentP p):=by rw [List.getD_eq_getElem?_getD,h]; rfl
 rw [h1]
 have h2:∀ a:AV,(es.set x a).getD x .junk = a:=fun a=>by rw [List.getD_eq_getElem?_getD,List.getElem?_set_self hx]; rfl
 rw [h2,List.set_set]
 rfl
theorem keptNums_eq (l:List Int):keptNums (intsA l) = pksL (seL (numP l)):=by
 unfold keptNums
 rw [List.map_map,pksL,seL,List.map_map,numP,List.map_map]
 rfl
theorem p5 (m:Int) (l:List Int) (web:List Bool) (hne:l ≠ []) (hl2:l.length≤140737488351232) (hw:web.length≤140737488351232):PureOk PI (GI m) XO5 (tbl t5) (itbl [(17,s17m)]) (a5 l web) [] 5 [.sl 1 (intsA l) .no,.sl 1 (blsA web) .no] (.bool true,[]):=by
 constructor
 rw [w5]
 have hll:(intsA l).length = l.length:=List.length_map ..
 have hwl:(blsA web).length = web.length:=List.length_map ..
 refine ⟨⟨rfl⟩,fun _=>⟨fun _=>⟨rfl⟩,fun h60=>?_⟩,fun h=>(by cases h)⟩
 rw [hll] at h60
 have h60:=of_decide_eq_false h60
 have hl60:l.length≤60:=by omega
 obtain ⟨M,hM⟩:∃ M,markA l web = M:=⟨_,rfl⟩
 have hMl:M.length = l.length:=by rw [← hM,markA_len]
 have hMok:OkPs M:=hM ▸ markA_ok hl60
 have hMat:∀ i (h:i < l.length),M[i]? = some (if webAt web i then webN else appN,numN l[i]):=fun i h=>hM ▸ markA_at h
 rw [hM]
 have hpl:∀ s n,(partA s (M.take n)).length≤60:=fun s n=>by
  have h1:=List.length_filter_le (fun p:List UInt8 × Int=>decide (p.1 = s)) (M.take n)
  have h2:(M.take n).length≤M.length:=by rw [List.length_take]; omega
  unfold partA; omega
 have hpk:∀ s n,(pksL (seL (partA s (M.take n)))).length = (partA s (M.take n)).length:=fun s n=>by rw [pksL_len,seL_len]
 rw [hll]
 refine ⟨⟨⟨l,rfl⟩,fun h=>hne (by simpa using h),by omega⟩,⟨⟨0,⟨rfl⟩,⟨by rw [keptNums_eq]; rfl⟩,Nat.zero_le _,trivial⟩,fun x hx=>⟨fun hlt=>?_,fun hge=>?_⟩⟩,fun _ _ _=>?_⟩
 ·have hlt:=of_decide_eq_true hlt
  have hxl:x < l.length:=by omega
  have hxM:x < M.length:=by omega
  have hb:(0:Int)≤x∧(x:Int) < l.length:=⟨by omega,hlt⟩
  obtain ⟨L,hL⟩:∃ L,M.take x ++ (numP l).drop x = L:=⟨_,rfl⟩
  have hLl:L.length = l.length:=by rw [← hL,List.length_append,List.length_take,List.length_drop,numP_len]; omega
  have hLx:L[x]? = some (appN,numN l[x]):=by
   rw [← hL,List.getElem?_append_right (by rw [List.length_take]; omega),List.getElem?_drop,List.length_take,show x + (x - min x M.length) = x by omega]
   exact numP_at hxl
  have hMx:=hMat x hxl
  have hnext:M.take (x + 1) ++ (numP l).drop (x + 1) = L.set x (if webAt web x then webN else appN,numN l[x]):=by
   obtain ⟨hxM',hMx'⟩:=List.getElem?_eq_some_iff.1 hMx
   rw [List.take_succ_eq_append_getElem hxM',hMx',← hL,List.set_append_right _ _ (by rw [List.length_take]; omega),List.length_take,show x - min x M.length = 0 by omega,
    List.drop_eq_getElem_cons (l:=numP l) (i:=x) (by rw [numP_len]; exact hxl),List.set_cons_zero]
   simp
  have hes:(pksL (seL L))[x]? = some (pkA (sentP (appN,numN l[x]))):=by
   rw [pksL,seL,List.map_map,List.getElem?_map,hLx]; rfl
  have hesl:(pksL (seL L)).length = l.length:=by rw [pksL_len,seL_len,hLl]
  have hpn:∀ s,partA s (M.take (x + 1)) = partA s (M.take x) ++ (if (if webAt web x then webN else appN) = s then [((if webAt web x then webN else appN),numN l[x])] else []):=fun s=>by
   obtain ⟨hxM',hMx'⟩:=List.getElem?_eq_some_iff.1 hMx
   rw [List.take_succ_eq_append_getElem hxM',hMx',part_snoc]
  have happ:∀ s (q:List UInt8 × Int),pksL (seL (partA s (M.take x) ++ [q])) = pksL (seL (partA s (M.take x))) ++ [pkA (sentP q)]:=fun s q=>by simp [pksL,seL]
  rw [hL]
  have stay:webAt web x = false→∃ y:Nat,ValsAre [.sl 1 (blsA web) .no,.ms 0 11 l.length,.sl 11 (pksL (seL (partA appN (M.take x))) ++ [pkA (sentP (appN,numN l[x]))]) (.tok 0),.sl 11 (pksL (seL (partA webN (M.take x)))) (.tok 1),.int .i64 (IntKind.i64.wrap ((x:Int) + 1))] [.sl 1 (blsA web) .no,.ms 0 11 l.length,.sl 11 (pksL (seL (partA appN (M.take y)))) (.tok 0),.sl 11 (pksL (seL (partA webN (M.take y)))) (.tok 1),.int .i64 y] ∧
    StIs ⟨[some [.tup [.bool true,.sl 11 (pksL (seL L)) .no]]],[((pksL (seL (partA appN (M.take x)))).length + 1,35),((partA webN (M.take x)).length,35)]⟩ ⟨[some [.tup [.bool true,.sl 11 (pksL (seL (M.take y ++ (numP l).drop y))) .no]]],[((partA appN (M.take y)).length,35),((partA webN (M.take y)).length,35)]⟩∧y≤l.length∧l.length - y < l.length - x:=fun hf=>by
   have e1:=hpn appN
   have e2:=hpn webN
   rw [hf] at e1 e2 hnext
   simp only [Bool.false_eq_true,if_false,if_true,app_ne,List.append_nil] at e1 e2 hnext
   refine ⟨x + 1,⟨?_⟩,⟨?_⟩,hxl,by omega⟩
   ·rw [wrapN (by omega),e1,e2,happ]
   ·rw [hnext,e1,e2,hpk,List.length_append]
    have:L.set x (appN,numN l[x]) = L:=by
     obtain ⟨h1,h2⟩:=List.getElem?_eq_some_iff.1 hLx
     rw [← h2,List.set_getElem_self]
    rw [this]; rfl
  have load:takeAt PI 35 (pksL (seL L)) x 0 = some (pkA (sentP (appN,numN l[x]))):=take_se hLx
  refine ⟨fun hwx=>?_,fun hwx=>?_⟩
  ·rw [hwl] at hwx ⊢
   have hwx:=of_decide_eq_true hwx
   have hxw:x < web.length:=by omega
   have hwe:webAt web x = web[x]:=by unfold webAt; rw [List.getElem?_eq_getElem hxw]; rfl
   refine ⟨⟨by omega,hwx⟩,web[x],by rw [Int.toNat_natCast]; exact take_bl (List.getElem?_eq_getElem hxw),fun hbt=>?_,fun hbf=>?_⟩
   ·rw [hbt] at hwe
    rw [Int.toNat_natCast]
    have h2s:=two_sets hes
    rw [h2s]
    have hset:(pksL (seL L)).set x (pkA (sentP (webN,numN l[x]))) = pksL (seL (L.set x (webN,numN l[x]))):=by
     simp only [pksL,seL,List.map_map,List.map_set]
    rw [hset]
    have hLx2:(L.set x (webN,numN l[x]))[x]? = some (webN,numN l[x]):=List.getElem?_set_self (by omega)
    have e1:=hpn appN
    have e2:=hpn webN
    rw [hwe] at e1 e2 hnext
    simp only [if_true,Ne.symm app_ne,if_false,List.append_nil] at e1 e2 hnext
    refine ⟨hb,by omega,hb,by rw [List.length_set]; omega,hb,_,_,_,_,_,_,_,_,_,_,_,take_se hLx2,.inl rfl,by have h1:=hpl webN x; have h2:=hpk webN x; show ((pksL (seL (partA webN (M.take x)))).length + 1) * 137≤70368744177664; rw [h2]; omega,by rw [hpk],x + 1,⟨?_⟩,⟨?_⟩,hxl,by omega⟩
    ·rw [wrapN (by omega),e1,e2,happ]; rfl
    ·rw [hnext,e1,e2,hpk,List.length_append]; rfl
   ·rw [hbf] at hwe
    refine ⟨hb,_,_,_,_,_,_,_,_,_,_,_,by rw [Int.toNat_natCast]; exact load,.inl rfl,by have h1:=hpl appN x; have h2:=hpk appN x; show ((pksL (seL (partA appN (M.take x)))).length + 1) * 137≤70368744177664; rw [h2]; omega,by rw [hpk],stay hwe⟩
  ·rw [hwl] at hwx
   have hwx:=of_decide_eq_false hwx
   have hwe:webAt web x = false:=by unfold webAt; rw [List.getElem?_eq_none (by omega)]; rfl
   refine ⟨hb,_,_,_,_,_,_,_,_,_,_,_,by rw [Int.toNat_natCast]; exact load,.inl rfl,by have h1:=hpl appN x; have h2:=hpk appN x; show ((pksL (seL (partA appN (M.take x)))).length + 1) * 137≤70368744177664; rw [h2]; omega,by rw [hpk],stay hwe⟩
 ·have hge:=of_decide_eq_false hge
  have hxl:x = l.length:=by omega
  subst hxl
  have e1:M.take l.length = M:=List.take_of_length_le (by omega)
  have e2:(numP l).drop l.length = []:=List.drop_eq_nil_of_le (by rw [numP_len]; exact Nat.le_refl _)
  rw [e1,e2,List.append_nil]
  exact ⟨by rw [pksL_len,seL_len,hMl],(),⟨rfl⟩,⟨rfl⟩,trivial,trivial⟩
 ·have hA:=part_ok (s:=appN) hMok
  have hB:=part_ok (s:=webN) hMok
  have hall:=apart_all hMok
  have hcnt:=apart_cnt hMok
  have c1:cntS (partA appN M)≤200:=Nat.le_trans (cnt_le _) hA.len
  have c2:cntS (partA webN M)≤200:=Nat.le_trans (cnt_le _) hB.len
  have rA:RcvP (allS (partA appN M)):=allS_ok (partA appN M) [] rcv_nil
  have rB:RcvP (allS (partA webN M)):=allS_ok (partA webN M) [] rcv_nil
  have rM:RcvP (allS M):=allS_ok M [] rcv_nil
  have lA:=rA.len
  have lB:=rB.len
  have lbx:∀ r:List BxI,(bxsL r).length = r.length:=fun r=>List.length_map ..
  have hn:((cntS M:Int) == IntKind.i64.wrap ((cntS (partA appN M):Int) + cntS (partA webN M))) = true:=by
   rw [wrap64_in (by omega) (by omega),hcnt]
   simp
  have h13:∀ es:List AV,es = bxsL (allS M)→CallIs (tbl t5 13 [.agg [.sl 3 (bxsL (allS M)) .no],.agg [.sl 3 es .no]]) (.bool true) []:=fun es he=>by
   subst he
   exact ⟨by rw [tbl_miss (by decide),tbl_miss (by decide),tbl_miss (by decide)]; exact c13w rM⟩
  have hbb:bxsL (allS M) = bxsL (allS (partA appN M)) ++ bxsL (allS (partA webN M)):=by rw [hall,bxsL,List.map_append]
  have ret:(true = true→RetIs (.bool true) [] (.bool true,[]))∧(true = false→RetIs (.bool false) [] (.bool true,[])):=⟨fun _=>⟨rfl⟩,fun h=>(by cases h)⟩
  refine ⟨bxsL (allS M),cntS M,⟨by rw [tbl_miss (by decide),tbl_miss (by decide)]; exact c18w hMok⟩,fun _=>⟨bxsL (allS (partA appN M)),cntS (partA appN M),⟨by rw [tbl_miss (by decide),tbl_miss (by decide)]; exact c18w hA⟩,fun _=>⟨bxsL (allS (partA webN M)),cntS (partA webN M),⟨by rw [tbl_miss (by decide),tbl_miss (by decide)]; exact c18w hB⟩,fun _=>⟨.inl rfl,by rw [lbx,Nat.zero_add]; omega,fun h1=>⟨.inl rfl,by rw [lbx,Nat.zero_add]; omega,fun h2=>⟨fun _=>⟨?_,ret⟩,fun hf=>by rw [hn] at hf; cases hf⟩,fun h2=>⟨fun _=>⟨h13 _ (by rw [hbb,h1]),ret⟩,fun hf=>by rw [hn] at hf; cases hf⟩⟩,fun h1=>⟨.inl rfl,by simp only [List.nil_append]; rw [lbx,lbx]; omega,by simp,fun _=>⟨h13 _ (by rw [hbb]; rfl),ret⟩,fun hf=>by rw [hn] at hf; cases hf⟩⟩,fun h=>(by cases h)⟩,fun h=>(by cases h)⟩,fun h=>(by cases h)⟩
  have hz:bxsL (allS M) = []:=by rw [hbb,h1,h2]; rfl
  rw [hz]
  exact ⟨rfl⟩
theorem o17m (m:Int):ISpecOk PI (GI m) 17 s17m:=thaw_of (X:=XO) (m:=[]) mixedI (tbl_cons (o24w m) tbl_nil) itbl_nil fun args S p r h hp=>by
 unfold s17m at h
 split at h
 case h_2=>cases h
 split at h
 case isFalse=>cases h
 rename_i hz
 subst hz
 injection h with h
 injection h with h1 h2
 subst h1; subst h2
 obtain ⟨⟨l,rfl⟩,hne,hl⟩:=hp
 rw [keptNums_eq]
 have hll:(intsA l).length = l.length:=List.length_map ..
 have hlp:(pksL (seL (numP l))).length = l.length:=by rw [pksL_len,seL_len,numP_len]
 rw [hll] at hl
 refine ⟨pksL (seL (numP l)),35,11,_,by rw [hlp]; exact p17 m l hl,fun h=>hne (by
  have:=congrArg List.length h
  rw [hlp] at this
  exact List.eq_nil_of_length_eq_zero (by rw [hll]; exact this)),by omega,size35,fun x hx c hc=>?_,fun c hc=>?_,by rw [hll,hlp]⟩
 ·obtain ⟨q,hq,rfl⟩:=List.mem_map.1 hx
  obtain ⟨q2,_,rfl⟩:=List.mem_map.1 hq
  simp only [pkA,sentP,zF,AV.cells,List.mem_cons,List.not_mem_nil,or_false] at hc
  rcases hc with rfl | rfl | rfl | rfl | rfl | rfl | rfl | rfl | rfl | rfl | rfl <;> rfl
 ·simp only [List.mem_cons,List.not_mem_nil,or_false] at hc
  subst hc; rfl
theorem t5_ok (m:Int):CalleeOk PI (GI m) (tbl t5):=tbl_cons (o7 m) (tbl_cons (o17 m) (tbl_cons ((o18 m).wk) (tbl_cons ((o13 m).wk) tbl_nil)))
def unBo:AV→Option Bool
 | .bool b=>some b
 | _=>none
theorem unBo_inv (a:AV) (x:Bool) (h:unBo a = some x):a = .bool x:=by
 unfold unBo at h
 split at h
 ·injection h with h; subst h; rfl
 ·cases h
def s5L:Spec:=fun args=>match args with
 | [.sl sz es .no,.sl sz2 es2 .no]=>if sz = 1∧sz2 = 1∧es.length≤140737488351232∧es2.length≤140737488351232 then (match unL unIn es,unL unBo es2 with
  | some _,some _=>some (.bool true,[])
  | _,_=>none) else none
 | _=>none
theorem SpecOk.or {P:Program} {G:Glob} {f:FuncId} {s s1 s2:Spec} (h1:SpecOk P G f s1) (h2:SpecOk P G f s2) (h:∀ args r,s args = some r→s1 args = some r∨s2 args = some r):SpecOk P G f s:=by
 intro g args r lv hr
 by_cases e:g = f
 ·subst e
  simp only [if_true] at hr
  rcases h args _ hr with h' | h'
  ·exact h1 g args r lv (by simp only [if_true]; exact h')
  ·exact h2 g args r lv (by simp only [if_true]; exact h')
 ·simp only [if_neg e] at hr
  cases hr
def s5z:Spec:=fun args=>match args with
 | [.sl sz [] .no,.sl sz2 _es2 .no]=>if sz = 1∧sz2 = 1 then some (.bool true,[]) else none
 | _=>none
theorem run5 (m:Int) (es2:List AV):(evs PI (GI m) (tbl t5) (fun _=>[]) 3).1 5 [.sl 1 [] .no,.sl 1 es2 .no] = some (.bool true,[]):=by kernel_rfl
theorem o5z (m:Int):SpecOk PI (GI m) 5 s5z:=spec_run mixedI (t5_ok m) fun args r h=>by
 unfold s5z at h
 split at h
 case h_2=>cases h
 split at h
 case isFalse=>cases h
 rename_i hc
 obtain ⟨rfl,rfl⟩:=hc
 injection h with h; subst h
 exact ⟨3,run5 m _⟩
def s5n:Spec:=fun args=>match args with
 | [.sl _ [] _,_]=>none
 | args=>s5L args
theorem o5n (m:Int):SpecOk PI (GI m) 5 s5n:=spec_of (X:=XO5) (m:=[]) mixedI (t5_ok m) (itbl_cons (o17m m) itbl_nil) fun args r h=>by
 unfold s5n at h
 split at h
 case h_1=>cases h
 case h_2 hno =>
 unfold s5L at h
 split at h
 case h_2=>cases h
 split at h
 case isFalse=>cases h
 rename_i hz
 obtain ⟨rfl,rfl,h1,h2⟩:=hz
 split at h
 case h_2=>cases h
 rename_i l web hl hw
 obtain rfl:_ = intsA l:=unL_inv unIn_inv hl
 obtain rfl:_ = blsA web:=unL_inv unBo_inv hw
 injection h with h; subst h
 rw [List.length_map] at h1 h2
 refine ⟨a5 l web,p5 m l web (fun e=>?_) h1 h2⟩
 subst e
 exact hno _ _ _ rfl
theorem o5L (m:Int):SpecOk PI (GI m) 5 s5L:=(o5z m).or (o5n m) fun args r h=>by
 by_cases hc:∃ sz sz2 es2,args = [.sl sz [] .no,.sl sz2 es2 .no]
 ·obtain ⟨sz,sz2,es2,rfl⟩:=hc
  left
  unfold s5L at h
  simp only at h
  split at h
  case isFalse=>cases h
  rename_i hz
  split at h
  case h_2=>cases h
  injection h with h; subst h
  simp only [s5z]
  rw [if_pos ⟨hz.1,hz.2.1⟩]
 ·right
  unfold s5n
  split
  ·rename_i sz o a
   exfalso
   unfold s5L at h
   split at h
   case h_2=>cases h
   rename_i he
   injection he with he1 he2
   injection he1 with e1 e2 e3
   subst e2; subst e3
   exact hc ⟨_,_,_,by rw [he2]⟩
  ·exact h
theorem s5L_true (l:List Int) (web:List Bool) (h:l.length≤140737488351232) (h2:web.length≤140737488351232):s5L [.sl 1 (intsA l) .no,.sl 1 (blsA web) .no] = some (.bool true,[]):=by
 simp only [s5L]
 rw [if_pos ⟨trivial,trivial,by rw [List.length_map]; omega,by rw [List.length_map]; omega⟩,show unL unIn (intsA l) = some l from unL_map (f:=unIn) (g:=AV.int .i64) (fun _=>rfl) l,show unL unBo (blsA web) = some web from unL_map (f:=unBo) (g:=AV.bool) (fun _=>rfl) web]
end Go.Abs
namespace Go.Abs
open Go.ChangeShapes Go.WideShapes Go.ChangeAt Go.RowKit Go.Deep Go.ChangeMaps
open Go.Proofs Go.Proofs.Ytpglogahncpnoaa
section
variable {H : Type} {enc : TypeId × Value → H} {P : Program} {W : World}
def ElemR (P:Program) (W:World) (enc:TypeId × Value→H) (e:TypeId) {α:Type} (g:α→AV) (Q:α→DataW H→Prop):Prop:=
 ∀ n cs x,DataW.trod enc P W 0 (fun _=>true) true n e cs = some x→∃ a:α,Q a x.1∧∀ (j:Nat) (c:AV) (u:Value),(g a).cells[j]? = some c→cs[j]? = some u→Rep (oldE W) W c u∧u.oneCell' = true
theorem open_slR {t e:TypeId} {sz:Nat} {α:Type} [Inhabited α] {g:α→AV} {Q:α→DataW H→Prop} (ht:P.underlying t = some (.slice e)) (hc:P.cellsOf e = sz) (hsz:0 < sz) (hg:∀ a,(g a).cells.length = sz∧(g a).closed1 = true) (hel:ElemR P W enc e g Q)
  {v:Value} {d:DataW H} {ps:List MemPlace} (hv:∃ A len cap,v = .slice A len cap) (h:DataW.Trod enc P W 0 (fun _=>true) true t v d ps) :
  ∃ l:List α,Rep (oldE W) W (.sl sz (l.map g) .no) v∧(l = []∨∃ elems spare,d = .slice elems spare∧elems.length = l.length∧∀ (i:Nat) a x,l[i]? = some a→elems[i]? = some x→Q a x):=by
 obtain ⟨a,len,cap,rfl⟩:=hv
 obtain ⟨fuel,h⟩:=h
 rcases open_slice ht h with ⟨hcs,_⟩ | ⟨a',len',cap',m,n,D,Pl,hcs,hb,hl,hmx,hm,hx,hels⟩
 ·simp [Value.cells] at hcs
  obtain ⟨rfl,rfl,rfl⟩:=hcs
  exact ⟨[],.sl sz [] .no none 0 (fun _ _=>.bool false) (by simp) (by simp [maxLen]) (.inl rfl) (by simp) (by simp) trivial (by simp) (fun _ _=>rfl),.inl rfl⟩
 ·simp [Value.cells] at hcs
  obtain ⟨rfl,rfl,rfl⟩:=hcs
  have hm':m = cap:=by simpa using hm
  have hch:∀ i,i < len→∃ x:α × List Value,x.2.length = sz∧(∀ j,j < sz→W.cell? (a'.add (i * sz + j)) = x.2[j]?)∧Q x.1 (D i)∧∀ (j:Nat) (c:AV) (u:Value),(g x.1).cells[j]? = some c→x.2[j]? = some u→Rep (oldE W) W c u∧u.oneCell' = true:=fun i hi=>by
   obtain ⟨cs,hcs,ht'⟩:=hels i (by omega)
   rw [hc] at hcs
   obtain ⟨_,hlen,hat⟩:=World.cells?_some hcs
   obtain ⟨x,hq,hx⟩:=hel n cs _ ht'
   refine ⟨(x,cs),hlen,fun j hj=>?_,hq,hx⟩
   have:=hat j hj
   rw [Go.Deep.add_add] at this
   exact this
  obtain ⟨f,hf⟩:=choose_lt hch
  refine ⟨(List.range len).map fun i=>(f i).1,?_,.inr ?_⟩
  ·have hlen:((List.range len).map fun i=>(f i).1).length = len:=by simp
   have hln:(((List.range len).map fun i=>(f i).1).map g).length = len:=by simp
   have hget:∀ (i:Nat) (e':AV),(((List.range len).map fun i=>(f i).1).map g)[i]? = some e'→i < len∧e' = g (f i).1:=fun i e' h=>by
    have hi:i < len:=by
     have:=(List.getElem?_eq_some_iff.1 h).1
     simpa using this
    refine ⟨hi,?_⟩
    simp [List.getElem?_range hi] at h
    exact h.symm
   let u:Nat→Nat→Value:=fun i j=>if i < len∧j < sz then ((f i).2[j]?).getD (.bool false) else .bool false
   have hu:∀ i j,i < len→j < sz→(f i).2[j]? = some (u i j):=fun i j hi hj=>by
    have h2:j < (f i).2.length:=by rw [(hf i hi).1]; exact hj
    simp only [u,hi,hj,and_self,if_true,List.getElem?_eq_getElem h2,Option.getD_some]
   have key:=Rep.sl (E:=oldE W) (w:=W) sz (((List.range len).map fun i=>(f i).1).map g) .no (some a') cap u (by rw [hln]; exact hl) hmx ?_ ?_ ?_ trivial ?_ ?_
   ·rw [hln] at key; exact key
   ·rcases Nat.eq_zero_or_pos len with h0 | h0
    ·left; subst h0; rfl
    ·right
     have h1:=(hf 0 h0).2.1 0 hsz
     rw [hu 0 0 h0 hsz] at h1
     have hadd:a'.add (0 * sz + 0) = a':=by unfold Addr.add; simp
     rw [hadd] at h1
     have hp:=addr_plain h1
     refine ⟨a'.block,a'.off,by rw [← hp],fun i e' j c hi hj=>?_⟩
     obtain ⟨hlt,rfl⟩:=hget i e' hi
     have hjs:j < sz:=by
      have:=(List.getElem?_eq_some_iff.1 hj).1
      rw [(hg _).1] at this; exact this
     have h2:=(hf i hlt).2.1 j hjs
     rw [hu i j hlt hjs,hp,addp] at h2
     have e:a'.off + i * sz + j = a'.off + (i * sz + j):=by omega
     refine ⟨cell_lt h1,by rw [e]; exact h2⟩
   ·intro e' he
    obtain ⟨x,hx,rfl⟩:=List.mem_map.1 he
    exact (hg x).1
   ·intro e' he
    obtain ⟨x,hx,rfl⟩:=List.mem_map.1 he
    exact (hg x).2
   ·intro i e' j c hi hj
    obtain ⟨hlt,rfl⟩:=hget i e' hi
    have hjs:j < sz:=by
     have:=(List.getElem?_eq_some_iff.1 hj).1
     rw [(hg _).1] at this; exact this
    exact ((hf i hlt).2.2.2 j c (u i j) hj (hu i j hlt hjs)).1
   ·intro i j
    by_cases hij:i < len∧j < sz
    ·have hjs:j < (g (f i).1).cells.length:=by rw [(hg _).1]; exact hij.2
     exact ((hf i hij.1).2.2.2 j _ (u i j) (List.getElem?_eq_getElem hjs) (hu i j hij.1 hij.2)).2
    ·simp only [u,if_neg hij]; rfl
  ·have hx1:=congrArg Prod.fst hx
   simp only at hx1
   refine ⟨_,_,hx1,by simp,fun i a x hi hxi=>?_⟩
   have hlt:i < len:=by
    have:=(List.getElem?_eq_some_iff.1 hi).1
    simpa using this
   simp [List.getElem?_range hlt] at hi hxi
   subst hi; subst hxi
   exact (hf i hlt).2.2.1
/-! cells that read so -/
def CellsAre (W:World) (l:List AV) (cs:List Value):Prop:=
 l.length = cs.length∧∀ (j:Nat) (c:AV) (u:Value),l[j]? = some c→cs[j]? = some u→Rep (oldE W) W c u∧u.oneCell' = true
theorem CellsAre.one {c:AV} {u:Value} (h:Rep (oldE W) W c u) (h1:u.oneCell' = true):CellsAre W [c] [u]:=⟨rfl,fun j c' u' hc hu=>by
 match j,hc,hu with
 | 0,hc,hu=>simp at hc hu; subst hc; subst hu; exact ⟨h,h1⟩⟩
theorem CellsAre.append {l r:List AV} {cs ds:List Value} (h:CellsAre W l cs) (k:CellsAre W r ds):CellsAre W (l ++ r) (cs ++ ds):=by
 refine ⟨by simp [h.1,k.1],fun j c u hc hu=>?_⟩
 rcases Nat.lt_or_ge j l.length with hj | hj
 ·rw [List.getElem?_append_left hj] at hc
  rw [List.getElem?_append_left (by rw [← h.1]; exact hj)] at hu
  exact h.2 j c u hc hu
 ·rw [List.getElem?_append_right hj] at hc
  rw [List.getElem?_append_right (by rw [← h.1]; exact hj),← h.1] at hu
  exact k.2 _ c u hc hu
theorem CellsAre.next {l r:List AV} {cs:List Value} {o s p:Nat} (h:CellsAre W l ((cs.drop o).take s)) (hp:p = o + s) (k:CellsAre W r (cs.drop p)):CellsAre W (l ++ r) (cs.drop o):=by
 subst hp
 have:=h.append k
 rwa [← List.drop_drop,List.take_append_drop] at this
theorem CellsAre.last {l:List AV} {cs:List Value} {o s:Nat} (h:CellsAre W l ((cs.drop o).take s)) (hs:cs.length = o + s):CellsAre W l (cs.drop o):=by
 rwa [List.take_of_length_le (by rw [List.length_drop]; omega)] at h
def wmax {H:Type} (P:Program) (t:TypeId) (d:DataW H):Nat:=(DataW.weights P t d).foldr max 0
theorem le_foldr:∀ {l:List Nat} {k:Nat},k ∈ l→k≤l.foldr max 0
 | a :: l,k,h=>by
  simp only [List.foldr_cons]
  rcases List.mem_cons.1 h with rfl | h
  ·omega
  ·have:=le_foldr h; omega
theorem foldr_le:∀ {l:List Nat} {m:Nat},(∀ k ∈ l,k≤m)→l.foldr max 0≤m
 | [],m,_=>Nat.zero_le _
 | a :: l,m,h=>by
  simp only [List.foldr_cons]
  have:=h a List.mem_cons_self
  have:=foldr_le fun k hk=>h k (List.mem_cons_of_mem _ hk)
  omega
theorem wmax_mono {t u:TypeId} {d e:DataW H} (h:∀ k ∈ DataW.weights P t d,k ∈ DataW.weights P u e):wmax P t d≤wmax P u e:=foldr_le fun k hk=>le_foldr (h k hk)
theorem wmax_arg {ts:List TypeId} {ds:List (DataW H)} (h:(DataW.weightsEach P ts ds).all (·≤reachBytes) = true) {j:Nat} {t:TypeId} {d:DataW H} (ht:ts[j]? = some t) (hd:ds[j]? = some d):wmax P t d≤140737488351232:=
 foldr_le fun k hk=>by
  have:=List.all_eq_true.1 h _ (DataW.weights_mem_each ht hd k hk)
  exact of_decide_eq_true this
theorem weightsAll_mem {e:TypeId}:∀ {l:List (DataW H)} {d:DataW H},d ∈ l→∀ k ∈ DataW.weights P e d,k ∈ DataW.weightsAll P e l
 | x :: l,d,h,k,hk=>by
  simp only [DataW.weightsAll,List.mem_append]
  rcases List.mem_cons.1 h with rfl | h
  ·exact .inl hk
  ·exact .inr (weightsAll_mem h k hk)
def ReadsAs (P:Program) (W:World) (enc:TypeId × Value→H) (t:TypeId) {α:Type} (g:α→List AV) (Q:α→Nat→Prop):Prop:=
 ∀ n cs x,DataW.trod enc P W 0 (fun _=>true) true n t cs = some x→∃ a:α,Q a (wmax P t x.1)∧CellsAre W (g a) cs
theorem reads_int {t:TypeId} (ht:P.underlying t = some (.int .i64)):ReadsAs P W enc t (fun n:Int=>[.int .i64 n]) (fun n _=>-9223372036854775808≤n∧n≤9223372036854775807):=by
 intro n cs x h
 obtain ⟨k,rfl,_,hw⟩:=DataW.trod_int ht h
 have:=int_rng hw
 exact ⟨k,⟨this.1,by omega⟩,.one (.int _ _) rfl⟩
theorem reads_bool {t:TypeId} (ht:P.underlying t = some .bool):ReadsAs P W enc t (fun b:Bool=>[.bool b]) (fun _ _=>True):=by
 intro n cs x h
 obtain ⟨b,rfl,_⟩:=DataW.trod_bool ht h
 exact ⟨b,trivial,.one (.bool _) rfl⟩
theorem reads_slice {t e:TypeId} {sz:Nat} {α:Type} [Inhabited α] {g:α→AV} {Q:α→Nat→Prop} (ht:P.underlying t = some (.slice e)) (hc:P.cellsOf e = sz) (hsz:0 < sz) (hby:1≤P.bytesOf e) (hg:∀ a,(g a).cells.length = sz∧(g a).closed1 = true) (hel:ReadsAs P W enc e (fun a=>(g a).cells) Q)
  (hQ:∀ a n m,Q a n→n≤m→Q a m):ReadsAs P W enc t (fun l:List α=>[.sl sz (l.map g) .no]) (fun l n=>l.length≤n∧∀ a ∈ l,Q a n):=by
 intro n cs x h
 have hs:∃ A len cap,cs = [.slice A len cap]:=by
  rcases open_slice ht h with ⟨hcs,_⟩ | ⟨a',len',cap',m,n,D,Pl,hcs,_⟩
  ·exact ⟨_,_,_,hcs⟩
  ·exact ⟨_,_,_,hcs⟩
 obtain ⟨A,len,cap,rfl⟩:=hs
 have hel':ElemR P W enc e g (fun a d=>Q a (wmax P e d)):=fun n cs x h=>by
  obtain ⟨a,h1,h2⟩:=hel n cs x h
  exact ⟨a,h1,h2.2⟩
 obtain ⟨l,hl,hb⟩:=open_slR ht hc hsz hg hel' ⟨A,len,cap,rfl⟩ (d:=x.1) (ps:=x.2) ⟨n,by simpa [Value.cells] using h⟩
 refine ⟨l,?_,.one hl rfl⟩
 rcases hb with rfl | ⟨elems,spare,he,hlen,hq⟩
 ·exact ⟨Nat.zero_le _,fun a ha=>by cases ha⟩
 ·rw [he]
  refine ⟨?_,fun a ha=>?_⟩
  ·have h1:(elems.length + spare.length) * P.bytesOf e≤wmax P t (DataW.slice elems spare):=le_foldr (by simp [DataW.weights,ht])
   have h2:=Nat.le_mul_of_pos_right (elems.length + spare.length) hby
   omega
  obtain ⟨i,hi⟩:=List.mem_iff_getElem?.1 ha
  have hlt:i < elems.length:=by rw [hlen]; exact (List.getElem?_eq_some_iff.1 hi).1
  have hx:=List.getElem?_eq_getElem hlt
  refine hQ a _ _ (hq i a _ hi hx) ?_
  refine wmax_mono fun k hk=>?_
  simp only [DataW.weights,ht,List.mem_cons,List.mem_append]
  exact .inr (.inl (weightsAll_mem (List.mem_of_getElem? hx) k hk))
/-! cells of any type -/
end
open Go.Proofs Go.Proofs.Ytpglogahncpnoaa
section
variable {H : Type} {enc : TypeId × Value → H} {P : Program} {W : World}
theorem ReadsAs.map {t:TypeId} {α β:Type} {g:α→List AV} {g':β→List AV} {Q:α→Nat→Prop} {Q':β→Nat→Prop} (h:ReadsAs P W enc t g Q) (f:α→β) (hg:∀ a,g a = g' (f a)) (hQ:∀ a n,Q a n→Q' (f a) n):ReadsAs P W enc t g' Q':=fun n cs x hx=>by
 obtain ⟨a,h1,h2⟩:=h n cs x hx
 exact ⟨f a,hQ a _ h1,by rw [← hg]; exact h2⟩
end
section
variable {H : Type} {enc : TypeId × Value → H} {W : World}
theorem cz3:PI.cellsOf 3 = 1:=by kernel_rfl
theorem cz4:PI.cellsOf 4 = 1:=by kernel_rfl
def rngI (n:Int):Prop:=-9223372036854775808≤n∧n≤9223372036854775807
theorem rInt:ReadsAs PI W enc 3 (fun n:Int=>[.int .i64 n]) (fun n _=>rngI n):=reads_int Try.underlying3
theorem rBool:ReadsAs PI W enc 4 (fun b:Bool=>[.bool b]) (fun _ _=>True):=reads_bool Try.underlying4
theorem rInts:ReadsAs PI W enc 68 (fun l:List Int=>[.sl 1 (intsA l) .no]) (fun l n=>l.length≤n):=fun n cs x h=>by
 obtain ⟨l,h1,h2⟩:=reads_slice (g:=AV.int .i64) Try.underlying68 cz3 (by omega) (by decide +kernel) (fun _=>⟨rfl,rfl⟩) rInt (fun _ _ _ h _=>h) n cs x h
 exact ⟨l,h1.1,h2⟩
/-! arguments -/
theorem open_one {t:TypeId} {α:Type} {g:α→AV} {Q:α→Nat→Prop} (hr:ReadsAs PI W enc t (fun a=>[g a]) Q) {v:Value} {d:DataW H} {ps:List MemPlace} (h1:∃ u,v.cells = #[u]∧v = u) (h:DataW.Trod enc PI W 0 (fun _=>true) true t v d ps):∃ a,Rep (oldE W) W (g a) v∧Q a (wmax PI t d):=by
 obtain ⟨u,hu,rfl⟩:=h1
 obtain ⟨fuel,h⟩:=h
 rw [hu] at h
 obtain ⟨a,q,c⟩:=hr fuel _ _ h
 exact ⟨a,(c.2 0 _ _ rfl rfl).1,q⟩
end
open Go.Proofs Go.Proofs.Ytpglogahncpnoaa
section
variable {W : World}
theorem nGlobI:0 < PI.globals.size:=by
 have:decide (0 < PI.globals.size) = true:=by kernel_rfl
 exact of_decide_eq_true this
theorem globI (hsh:W.ShapedOpen PI) {m:Int} (hm:W.cell? ⟨0,0,none⟩ = some (.int .i64 m)):GlobOk (GI m) (oldE W) W:=by
 refine globA (fun g e hg=>?_) fun g e hg=>?_
 ·match g,hg with
  | 0,hg =>
   simp only [GI,Option.some.injEq] at hg
   subst hg
   refine ⟨rfl,fun j c hj=>?_⟩
   match j,hj with
   | 0,hj=>simp [AV.cells] at hj; subst hj; exact ⟨_,hm,.int _ _,rfl⟩
   | j + 1,hj=>simp [AV.cells] at hj
  | g + 1,hg=>cases hg
 ·match g,hg with
  | 0,hg =>
   simp only [GI,Option.some.injEq] at hg
   subst hg
   exact glob_size hsh (n:=1) nGlobI (by kernel_rfl)
  | g + 1,hg=>cases hg
end
/-! what the bound on all that is read gives -/
theorem one_slice {P:Program} {W:World} {t e:TypeId} {v:Value} {b:Nat} (ht:P.underlying t = some (.slice e)) (h:Value.okWide P W .any b t v):∃ u,v.cells = #[u]∧v = u:=by
 obtain ⟨A,n,c,rfl⟩:=okWide_slice ht h
 exact ⟨_,rfl,rfl⟩
theorem witness_row_shaped {H:Type} {enc:TypeId × Value→H} {C:Checked} {os:Os} {f:FuncId} {fn:Func} {s:OpenSpec} {conds:List PathCond} {apart:Bool} {laid:List (String × DataW Unit)} (w0:World) (args:Array Value) (hos:w0.os = os)
  (hsh:(w0.forCall (fun _ _=>0) ⟨#[],args,[]⟩).Shaped C.prog)
  (hok:Input.okWideB C.prog (w0.forCall (fun _ _=>0) ⟨#[],args,[]⟩) f ⟨#[],args,[]⟩ = true)
  (hrow:s.preRow enc C.prog fn conds apart laid (w0.forCall (fun _ _=>0) ⟨#[],args,[]⟩).memory args) :
  ∃ (w:World) (tape:Tape) (i:Input),w.os = os∧(w.forCall tape i).Shaped C.prog∧i.vars = []∧Input.okWide C.prog (w.forCall tape i) .any w.heap.size f i ∧
   s.preRow enc C.prog fn conds apart laid (w.forCall tape i).memory i.args∧({}:Assume).holds C.prog (lone (Frame.enter C.prog f i.args .normal) [] (w.forCall tape i)):=
 ⟨w0,fun _ _=>0,⟨#[],args,[]⟩,hos,hsh,(Input.okWide_of_okWideB (base:=0) hok).1,(Input.okWide_of_okWideB hok).2,hrow,by
  simp only [Assume.holds]
  exact ⟨by simp,by simp,fun _=>Modest.zero,by simp,by simp⟩⟩
open Go.Proofs Go.Proofs.Ytpglogahncpnoaa
theorem rBools {H:Type} {enc:TypeId × Value→H} {W:World}:ReadsAs PI W enc 69 (fun l:List Bool=>[.sl 1 (l.map AV.bool) .no]) (fun l n=>l.length≤n):=fun n cs x h=>by
 obtain ⟨l,h1,h2⟩:=reads_slice (g:=AV.bool) Try.underlying69 cz4 (by omega) (by decide +kernel) (fun _=>⟨rfl,rfl⟩) rBool (fun _ _ _ h _=>h) n cs x h
 exact ⟨l,h1.1,h2⟩
theorem len_of {k n:Nat} (h:k≤n) (hn:n≤140737488351232):k≤140737488351232:=Nat.le_trans h hn
end Go.Abs
