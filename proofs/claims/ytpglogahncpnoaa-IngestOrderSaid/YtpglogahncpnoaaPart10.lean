/- Own texts, part 10. -/
import Derived.Test.YtpglogahncpnoaaPart9

namespace Go.Abs
open Go.Proofs
theorem w6 (m:Int) (l:List Int) (turn:Int):(pureW PI (GI m) (XO6 l) (tbl t6) (itbl []) (a6 l turn) [] 6 [.sl 1 (intsA l) .no,.int .i64 turn] (.bool true,[])) =
(CallIs (some (AV.bool true,[])) (AV.bool true) [] ∧
  (true = true →
      (decide ((↑(intsA l).length:Int) > (60:Int)) = true→RetIs (AV.bool true) [] (AV.bool true,[])) ∧
        (decide ((↑(intsA l).length:Int) > (60:Int)) = false →
 (((↑(intsA l).length:Int) == (0:Int)) = true→RetIs (AV.bool true) [] (AV.bool true,[])) ∧
 (((↑(intsA l).length:Int) == (0:Int)) = false →
 (decide (turn < (0:Int)) = true→RetIs (AV.bool true) [] (AV.bool true,[])) ∧
 (decide (turn < (0:Int)) = false →
 (decide (turn ≥ (↑(intsA l).length:Int)) = true→RetIs (AV.bool true) [] (AV.bool true,[])) ∧
 (decide (turn ≥ (↑(intsA l).length:Int)) = false →
 ∃ (es:List AV),
 CallIs
 (tbl
 [((7:Nat),s7),((17:Nat),s17),((18:Nat),fun (args:List AV)=>s18 (List.map wk1 args)),((10:Nat),s10w),
 ((13:Nat),s13),((19:Nat),fun (args:List AV)=>s19 (List.map wk1 args))]
 ((17:Nat)) [AV.sl ((1:Nat)) (intsA l) Own.no])
 (AV.sl ((11:Nat)) es (Own.tok ((0:Nat)))) [(es.length,(35:Nat))] ∧
 (∃ (y:Nat),
 ValsAre
 [AV.sl ((1:Nat)) (intsA l) Own.no,AV.int IntKind.i64 turn,AV.sl ((11:Nat)) es (Own.tok ((0:Nat))),
 AV.sl ((11:Nat)) [] (Own.tok (1:Nat)),AV.int IntKind.i64 (IntKind.i64.wrap ((↑es.length:Int) - (1:Int)))]
 [AV.sl ((1:Nat)) (intsA l) Own.no,AV.int IntKind.i64 turn,AV.sl ((11:Nat)) (pksL (seL (numP l))) (Own.tok ((0:Nat))),
 AV.sl ((11:Nat)) (pksL (seL (List.take y (List.reverse (numP l))))) (Own.tok ((1:Nat))),
 AV.int IntKind.i64 ((↑l.length:Int) - (1:Int) - (↑y:Int))] ∧
 StIs { boxes:=[],live:=[(es.length,(35:Nat)),((0:Nat),(35:Nat))] }
 { boxes:=[],live:=[(l.length,(35:Nat)),((List.take y (List.reverse (numP l))).length,(35:Nat))] } ∧
 y≤l.length∧True) ∧
 ∀ (x:Nat),
 x≤l.length →
 (decide ((↑l.length:Int) - (1:Int) - (↑x:Int) ≥ (0:Int)) = true →
 ((0:Int)≤(↑l.length:Int) - (1:Int) - (↑x:Int) ∧
 (↑l.length:Int) - (1:Int) - (↑x:Int) < (↑(pksL (seL (numP l))).length:Int)) ∧
 ∃ (s:List UInt8),
 ∃ (b:Bool),
 ∃ (n:Int),
 ∃ (s_1:List UInt8),
 ∃ (n_1:Int),
 ∃ (n_2:Int),
 ∃ (n_3:Int),
 ∃ (s_2:List UInt8),
 ∃ (s_3:List UInt8),
 ∃ (n_4:Int),
 ∃ (es:List AV),
 takeAt PI ((35:Nat)) (pksL (seL (numP l))) ((↑l.length:Int) - (1:Int) - (↑x:Int)).toNat
 ((0:Nat)) =
 some
 (AV.agg
 [AV.str s,AV.bool b,AV.int IntKind.i64 n,AV.str s_1,AV.int IntKind.i64 n_1,
 AV.int IntKind.i64 n_2,AV.int IntKind.i64 n_3,AV.str s_2,AV.str s_3,
 AV.int IntKind.i64 n_4,AV.sl ((3:Nat)) es Own.no]) ∧
 ((11:Nat) = (11:Nat)∨pksL (seL (List.take x (List.reverse (numP l)))) = []) ∧
 ((pksL (seL (List.take x (List.reverse (numP l))))).length + (1:Nat)) * (137:Nat) ≤
 (70368744177664:Nat) ∧
 (List.take x (List.reverse (numP l))).length =
 (pksL (seL (List.take x (List.reverse (numP l))))).length ∧
 ∃ (y:Nat),
 ValsAre
 [AV.sl ((1:Nat)) (intsA l) Own.no,AV.int IntKind.i64 turn,
 AV.sl ((11:Nat)) (pksL (seL (numP l))) (Own.tok ((0:Nat))),
 AV.sl ((11:Nat))
 (pksL (seL (List.take x (List.reverse (numP l)))) ++
 [AV.agg
 [AV.str s,AV.bool b,AV.int IntKind.i64 n,AV.str s_1,
 AV.int IntKind.i64 n_1,AV.int IntKind.i64 n_2,AV.int IntKind.i64 n_3,
 AV.str s_2,AV.str s_3,AV.int IntKind.i64 n_4,
 AV.sl ((3:Nat)) es Own.no]])
 (Own.tok ((1:Nat))),
 AV.int IntKind.i64
 (IntKind.i64.wrap ((↑l.length:Int) - (1:Int) - (↑x:Int) - (1:Int)))]
 [AV.sl ((1:Nat)) (intsA l) Own.no,AV.int IntKind.i64 turn,
 AV.sl ((11:Nat)) (pksL (seL (numP l))) (Own.tok ((0:Nat))),
 AV.sl ((11:Nat)) (pksL (seL (List.take y (List.reverse (numP l)))))
 (Own.tok ((1:Nat))),
 AV.int IntKind.i64 ((↑l.length:Int) - (1:Int) - (↑y:Int))] ∧
 StIs
 { boxes:=[],live:=[(l.length,(35:Nat)),((pksL (seL (List.take x (List.reverse (numP l))))).length + (1:Nat),(35:Nat))] }
 { boxes:=[],live:=[(l.length,(35:Nat)),((List.take y (List.reverse (numP l))).length,(35:Nat))] } ∧
 y≤l.length∧l.length - y < l.length - x) ∧
 (decide ((↑l.length:Int) - (1:Int) - (↑x:Int) ≥ (0:Int)) = false →
 CallIs
 (tbl
 [((7:Nat),s7),((17:Nat),s17),((18:Nat),fun (args:List AV)=>s18 (List.map wk1 args)),
 ((10:Nat),s10w),((13:Nat),s13),((19:Nat),fun (args:List AV)=>s19 (List.map wk1 args))]
 ((18:Nat)) [AV.agg [AV.sl ((0:Nat)) [] Own.nil],AV.sl ((11:Nat)) (pksL (seL (numP l))) Own.no])
 (AV.tup
 [AV.agg [AV.sl ((3:Nat)) (bxsL (allS (numP l))) Own.no],AV.int IntKind.i64 (↑(cntS (numP l)):Int),AV.bool true])
 [] ∧
 (true = true →
 ((0:Int)≤turn ∧
 (turn.toNat≤(pksL (seL (numP l))).length∧(pksL (seL (numP l))).length≤(pksL (seL (numP l))).length) ∧
 ((11:Nat) = (11:Nat)∨pksL (seL (numP l)) = []) ∧
 (turn.toNat = (0:Nat)∧(pksL (seL (numP l))).length = (pksL (seL (numP l))).length →
 ((11:Nat) = (11:Nat)∨([]:List AV) = []) ∧
 ((0:Nat) +
 (List.drop turn.toNat (List.take (pksL (seL (numP l))).length (pksL (seL (numP l))))).length) *
 (137:Nat) ≤
 (70368744177664:Nat) ∧
 (List.drop turn.toNat (List.take (pksL (seL (numP l))).length (pksL (seL (numP l)))) = [] →
 (0:Int)≤turn ∧
 ((0:Nat)≤turn.toNat∧turn.toNat≤(pksL (seL (numP l))).length) ∧
 ((11:Nat) = (11:Nat)∨pksL (seL (numP l)) = []) ∧
 ((0:Nat) = (0:Nat)∧turn.toNat = (pksL (seL (numP l))).length →
 ((11:Nat) = (11:Nat)∨([]:List AV) = []) ∧
 ((0:Nat) +
 (List.drop ((0:Nat)) (List.take turn.toNat (pksL (seL (numP l))))).length) *
 (137:Nat) ≤
 (70368744177664:Nat) ∧
 (List.drop ((0:Nat)) (List.take turn.toNat (pksL (seL (numP l)))) = [] →
 CallIs
 (some
 (AV.tup
 [AV.agg [AV.sl ((3:Nat)) [] Own.no],AV.int IntKind.i64 (0:Int),
 AV.bool true],
 []))
 (AV.tup
 [AV.agg [AV.sl ((3:Nat)) (bxsL (allS (numP l))) Own.no],
 AV.int IntKind.i64 (↑(cntS (numP l)):Int),AV.bool true])
 [] ∧
 (true = true →
 ∃ (_y:Unit),
 ValsAre
 [AV.int IntKind.i64 turn,
 AV.sl ((11:Nat)) (pksL (seL (numP l))) (Own.tok ((0:Nat))),
 AV.sl ((11:Nat))
 (pksL (seL (List.take x (List.reverse (numP l)))))
 (Own.tok ((1:Nat))),
 AV.ptr ((0:Nat)) ((0:Nat)),
 AV.int IntKind.i64 (↑(cntS (numP l)):Int),AV.bool true,
 AV.ptr ((1:Nat)) ((0:Nat)),
 AV.int IntKind.i64 (↑(cntS (numP l)):Int),AV.bool true]
 [AV.int IntKind.i64 turn,
 AV.sl ((11:Nat)) (pksL (seL (numP l))) (Own.tok ((0:Nat))),
 AV.sl ((11:Nat)) (pksL (seL (List.reverse (numP l))))
 (Own.tok ((1:Nat))),
 AV.ptr ((0:Nat)) ((0:Nat)),
 AV.int IntKind.i64 (↑(cntS (numP l)):Int),AV.bool true,
 AV.ptr ((1:Nat)) ((0:Nat)),
 AV.int IntKind.i64 (↑(cntS (numP l)):Int),AV.bool true] ∧
 StIs
 { boxes:=[some [AV.sl ((3:Nat)) (bxsL (allS (numP l))) Own.no],some [AV.sl ((3:Nat)) (bxsL (allS (numP l))) Own.no]],live:=[(l.length,(35:Nat)),((List.take x (List.reverse (numP l))).length,(35:Nat))] }
 { boxes:=[some [AV.sl ((3:Nat)) (bxsL (allS (numP l))) Own.no],some [AV.sl ((3:Nat)) (bxsL (allS (numP l))) Own.no]],live:=[(l.length,(35:Nat)),(l.length,(35:Nat))] } ∧
 True∧True) ∧
 (true = false →
 ∃ (_y:Unit),
 ValsAre
 [AV.int IntKind.i64 turn,
 AV.sl ((11:Nat)) (pksL (seL (numP l))) (Own.tok ((0:Nat))),
 AV.sl ((11:Nat))
 (pksL (seL (List.take x (List.reverse (numP l)))))
 (Own.tok ((1:Nat))),
 AV.ptr ((0:Nat)) ((0:Nat)),
 AV.int IntKind.i64 (↑(cntS (numP l)):Int),AV.bool true,
 AV.ptr ((1:Nat)) ((0:Nat)),
 AV.int IntKind.i64 (↑(cntS (numP l)):Int),AV.bool false]
 [AV.int IntKind.i64 turn,
 AV.sl ((11:Nat)) (pksL (seL (numP l))) (Own.tok ((0:Nat))),
 AV.sl ((11:Nat)) (pksL (seL (List.reverse (numP l))))
 (Own.tok ((1:Nat))),
 AV.ptr ((0:Nat)) ((0:Nat)),
 AV.int IntKind.i64 (↑(cntS (numP l)):Int),AV.bool true,
 AV.ptr ((1:Nat)) ((0:Nat)),
 AV.int IntKind.i64 (↑(cntS (numP l)):Int),AV.bool true] ∧
 StIs
 { boxes:=[some [AV.sl ((3:Nat)) (bxsL (allS (numP l))) Own.no],some [AV.sl ((3:Nat)) (bxsL (allS (numP l))) Own.no]],live:=[(l.length,(35:Nat)),((List.take x (List.reverse (numP l))).length,(35:Nat))] }
 { boxes:=[some [AV.sl ((3:Nat)) (bxsL (allS (numP l))) Own.no],some [AV.sl ((3:Nat)) (bxsL (allS (numP l))) Own.no]],live:=[(l.length,(35:Nat)),(l.length,(35:Nat))] } ∧
 True∧True)) ∧
 (List.drop ((0:Nat)) (List.take turn.toNat (pksL (seL (numP l)))) ≠ [] →
 CallIs
 (tbl
 [((7:Nat),s7),((17:Nat),s17),
 ((18:Nat),fun (args:List AV)=>s18 (List.map wk1 args)),
 ((10:Nat),s10w),((13:Nat),s13),
 ((19:Nat),fun (args:List AV)=>s19 (List.map wk1 args))]
 ((18:Nat))
 [AV.agg [AV.sl ((0:Nat)) [] Own.nil],
 AV.sl ((11:Nat))
 ([] ++
 List.drop ((0:Nat)) (List.take turn.toNat (pksL (seL (numP l)))))
 Own.no])
 (AV.tup
 [AV.agg [AV.sl ((3:Nat)) (bxsL (allS (numP l))) Own.no],
 AV.int IntKind.i64 (↑(cntS (numP l)):Int),AV.bool true])
 [] ∧
 (true = true →
 ∃ (_y:Unit),
 ValsAre
 [AV.int IntKind.i64 turn,
 AV.sl ((11:Nat)) (pksL (seL (numP l))) (Own.tok ((0:Nat))),
 AV.sl ((11:Nat))
 (pksL (seL (List.take x (List.reverse (numP l)))))
 (Own.tok ((1:Nat))),
 AV.ptr ((0:Nat)) ((0:Nat)),
 AV.int IntKind.i64 (↑(cntS (numP l)):Int),AV.bool true,
 AV.ptr ((1:Nat)) ((0:Nat)),
 AV.int IntKind.i64 (↑(cntS (numP l)):Int),AV.bool true]
 [AV.int IntKind.i64 turn,
 AV.sl ((11:Nat)) (pksL (seL (numP l))) (Own.tok ((0:Nat))),
 AV.sl ((11:Nat)) (pksL (seL (List.reverse (numP l))))
 (Own.tok ((1:Nat))),
 AV.ptr ((0:Nat)) ((0:Nat)),
 AV.int IntKind.i64 (↑(cntS (numP l)):Int),AV.bool true,
 AV.ptr ((1:Nat)) ((0:Nat)),
 AV.int IntKind.i64 (↑(cntS (numP l)):Int),AV.bool true] ∧
 StIs
 { boxes:=[some [AV.sl ((3:Nat)) (bxsL (allS (numP l))) Own.no],some [AV.sl ((3:Nat)) (bxsL (allS (numP l))) Own.no]],live:=[(l.length,(35:Nat)),((List.take x (List.reverse (numP l))).length,(35:Nat))] }
 { boxes:=[some [AV.sl ((3:Nat)) (bxsL (allS (numP l))) Own.no],some [AV.sl ((3:Nat)) (bxsL (allS (numP l))) Own.no]],live:=[(l.length,(35:Nat)),(l.length,(35:Nat))] } ∧
 True∧True) ∧
 (true = false →
 ∃ (_y:Unit),
 ValsAre
 [AV.int IntKind.i64 turn,
 AV.sl ((11:Nat)) (pksL (seL (numP l))) (Own.tok ((0:Nat))),
 AV.sl ((11:Nat))
 (pksL (seL (List.take x (List.reverse (numP l)))))
 (Own.tok ((1:Nat))),
 AV.ptr ((0:Nat)) ((0:Nat)),
 AV.int IntKind.i64 (↑(cntS (numP l)):Int),AV.bool true,
 AV.ptr ((1:Nat)) ((0:Nat)),
 AV.int IntKind.i64 (↑(cntS (numP l)):Int),AV.bool false]
 [AV.int IntKind.i64 turn,
 AV.sl ((11:Nat)) (pksL (seL (numP l))) (Own.tok ((0:Nat))),
 AV.sl ((11:Nat)) (pksL (seL (List.reverse (numP l))))
 (Own.tok ((1:Nat))),
 AV.ptr ((0:Nat)) ((0:Nat)),
 AV.int IntKind.i64 (↑(cntS (numP l)):Int),AV.bool true,
 AV.ptr ((1:Nat)) ((0:Nat)),
 AV.int IntKind.i64 (↑(cntS (numP l)):Int),AV.bool true] ∧
 StIs
 { boxes:=[some [AV.sl ((3:Nat)) (bxsL (allS (numP l))) Own.no],some [AV.sl ((3:Nat)) (bxsL (allS (numP l))) Own.no]],live:=[(l.length,(35:Nat)),((List.take x (List.reverse (numP l))).length,(35:Nat))] }
 { boxes:=[some [AV.sl ((3:Nat)) (bxsL (allS (numP l))) Own.no],some [AV.sl ((3:Nat)) (bxsL (allS (numP l))) Own.no]],live:=[(l.length,(35:Nat)),(l.length,(35:Nat))] } ∧
 True∧True))) ∧
 (¬((0:Nat) = (0:Nat)∧turn.toNat = (pksL (seL (numP l))).length) →
 ((11:Nat) = (11:Nat)∨([]:List AV) = []) ∧
 ((0:Nat) +
 (List.drop ((0:Nat)) (List.take turn.toNat (pksL (seL (numP l))))).length) *
 (137:Nat) ≤
 (70368744177664:Nat) ∧
 (List.drop ((0:Nat)) (List.take turn.toNat (pksL (seL (numP l)))) = [] →
 CallIs
 (some
 (AV.tup
 [AV.agg [AV.sl ((3:Nat)) [] Own.no],AV.int IntKind.i64 (0:Int),
 AV.bool true],
 []))
 (AV.tup
 [AV.agg [AV.sl ((3:Nat)) (bxsL (allS (numP l))) Own.no],
 AV.int IntKind.i64 (↑(cntS (numP l)):Int),AV.bool true])
 [] ∧
 (true = true →
 ∃ (_y:Unit),
 ValsAre
 [AV.int IntKind.i64 turn,
 AV.sl ((11:Nat)) (pksL (seL (numP l))) (Own.tok ((0:Nat))),
 AV.sl ((11:Nat))
 (pksL (seL (List.take x (List.reverse (numP l)))))
 (Own.tok ((1:Nat))),
 AV.ptr ((0:Nat)) ((0:Nat)),
 AV.int IntKind.i64 (↑(cntS (numP l)):Int),AV.bool true,
 AV.ptr ((1:Nat)) ((0:Nat)),
 AV.int IntKind.i64 (↑(cntS (numP l)):Int),AV.bool true]
 [AV.int IntKind.i64 turn,
 AV.sl ((11:Nat)) (pksL (seL (numP l))) (Own.tok ((0:Nat))),
 AV.sl ((11:Nat)) (pksL (seL (List.reverse (numP l))))
 (Own.tok ((1:Nat))),
 AV.ptr ((0:Nat)) ((0:Nat)),
 AV.int IntKind.i64 (↑(cntS (numP l)):Int),AV.bool true,
 AV.ptr ((1:Nat)) ((0:Nat)),
 AV.int IntKind.i64 (↑(cntS (numP l)):Int),AV.bool true] ∧
 StIs
 { boxes:=[some [AV.sl ((3:Nat)) (bxsL (allS (numP l))) Own.no],some [AV.sl ((3:Nat)) (bxsL (allS (numP l))) Own.no]],live:=[(l.length,(35:Nat)),((List.take x (List.reverse (numP l))).length,(35:Nat))] }
 { boxes:=[some [AV.sl ((3:Nat)) (bxsL (allS (numP l))) Own.no],some [AV.sl ((3:Nat)) (bxsL (allS (numP l))) Own.no]],live:=[(l.length,(35:Nat)),(l.length,(35:Nat))] } ∧
 True∧True) ∧
 (true = false →
 ∃ (_y:Unit),
 ValsAre
 [AV.int IntKind.i64 turn,
 AV.sl ((11:Nat)) (pksL (seL (numP l))) (Own.tok ((0:Nat))),
 AV.sl ((11:Nat))
 (pksL (seL (List.take x (List.reverse (numP l)))))
 (Own.tok ((1:Nat))),
 AV.ptr ((0:Nat)) ((0:Nat)),
 AV.int IntKind.i64 (↑(cntS (numP l)):Int),AV.bool true,
 AV.ptr ((1:Nat)) ((0:Nat)),
 AV.int IntKind.i64 (↑(cntS (numP l)):Int),AV.bool false]
 [AV.int IntKind.i64 turn,
 AV.sl ((11:Nat)) (pksL (seL (numP l))) (Own.tok ((0:Nat))),
 AV.sl ((11:Nat)) (pksL (seL (List.reverse (numP l))))
 (Own.tok ((1:Nat))),
 AV.ptr ((0:Nat)) ((0:Nat)),
 AV.int IntKind.i64 (↑(cntS (numP l)):Int),AV.bool true,
 AV.ptr ((1:Nat)) ((0:Nat)),
 AV.int IntKind.i64 (↑(cntS (numP l)):Int),AV.bool true] ∧
 StIs
 { boxes:=[some [AV.sl ((3:Nat)) (bxsL (allS (numP l))) Own.no],some [AV.sl ((3:Nat)) (bxsL (allS (numP l))) Own.no]],live:=[(l.length,(35:Nat)),((List.take x (List.reverse (numP l))).length,(35:Nat))] }
 { boxes:=[some [AV.sl ((3:Nat)) (bxsL (allS (numP l))) Own.no],some [AV.sl ((3:Nat)) (bxsL (allS (numP l))) Own.no]],live:=[(l.length,(35:Nat)),(l.length,(35:Nat))] } ∧
 True∧True)) ∧
 (List.drop ((0:Nat)) (List.take turn.toNat (pksL (seL (numP l)))) ≠ [] →
 CallIs
 (tbl
 [((7:Nat),s7),((17:Nat),s17),
 ((18:Nat),fun (args:List AV)=>s18 (List.map wk1 args)),
 ((10:Nat),s10w),((13:Nat),s13),
 ((19:Nat),fun (args:List AV)=>s19 (List.map wk1 args))]
 ((18:Nat))
 [AV.agg [AV.sl ((0:Nat)) [] Own.nil],
 AV.sl ((11:Nat))
 ([] ++
 List.drop ((0:Nat)) (List.take turn.toNat (pksL (seL (numP l)))))
 Own.no])
 (AV.tup
 [AV.agg [AV.sl ((3:Nat)) (bxsL (allS (numP l))) Own.no],
 AV.int IntKind.i64 (↑(cntS (numP l)):Int),AV.bool true])
 [] ∧
 (true = true →
 ∃ (_y:Unit),
 ValsAre
 [AV.int IntKind.i64 turn,
 AV.sl ((11:Nat)) (pksL (seL (numP l))) (Own.tok ((0:Nat))),
 AV.sl ((11:Nat))
 (pksL (seL (List.take x (List.reverse (numP l)))))
 (Own.tok ((1:Nat))),
 AV.ptr ((0:Nat)) ((0:Nat)),
 AV.int IntKind.i64 (↑(cntS (numP l)):Int),AV.bool true,
 AV.ptr ((1:Nat)) ((0:Nat)),
 AV.int IntKind.i64 (↑(cntS (numP l)):Int),AV.bool true]
 [AV.int IntKind.i64 turn,
 AV.sl ((11:Nat)) (pksL (seL (numP l))) (Own.tok ((0:Nat))),
 AV.sl ((11:Nat)) (pksL (seL (List.reverse (numP l))))
 (Own.tok ((1:Nat))),
 AV.ptr ((0:Nat)) ((0:Nat)),
 AV.int IntKind.i64 (↑(cntS (numP l)):Int),AV.bool true,
 AV.ptr ((1:Nat)) ((0:Nat)),
 AV.int IntKind.i64 (↑(cntS (numP l)):Int),AV.bool true] ∧
 StIs
 { boxes:=[some [AV.sl ((3:Nat)) (bxsL (allS (numP l))) Own.no],some [AV.sl ((3:Nat)) (bxsL (allS (numP l))) Own.no]],live:=[(l.length,(35:Nat)),((List.take x (List.reverse (numP l))).length,(35:Nat))] }
 { boxes:=[some [AV.sl ((3:Nat)) (bxsL (allS (numP l))) Own.no],some [AV.sl ((3:Nat)) (bxsL (allS (numP l))) Own.no]],live:=[(l.length,(35:Nat)),(l.length,(35:Nat))] } ∧
 True∧True) ∧
 (true = false →
 ∃ (_y:Unit),
 ValsAre
 [AV.int IntKind.i64 turn,
 AV.sl ((11:Nat)) (pksL (seL (numP l))) (Own.tok ((0:Nat))),
 AV.sl ((11:Nat))
 (pksL (seL (List.take x (List.reverse (numP l)))))
 (Own.tok ((1:Nat))),
 AV.ptr ((0:Nat)) ((0:Nat)),
 AV.int IntKind.i64 (↑(cntS (numP l)):Int),AV.bool true,
 AV.ptr ((1:Nat)) ((0:Nat)),
 AV.int IntKind.i64 (↑(cntS (numP l)):Int),AV.bool false]
 [AV.int IntKind.i64 turn,
 AV.sl ((11:Nat)) (pksL (seL (numP l))) (Own.tok ((0:Nat))),
 AV.sl ((11:Nat)) (pksL (seL (List.reverse (numP l))))
 (Own.tok ((1:Nat))),
 AV.ptr ((0:Nat)) ((0:Nat)),
 AV.int IntKind.i64 (↑(cntS (numP l)):Int),AV.bool true,
 AV.ptr ((1:Nat)) ((0:Nat)),
 AV.int IntKind.i64 (↑(cntS (numP l)):Int),AV.bool true] ∧
 StIs
 { boxes:=[some [AV.sl ((3:Nat)) (bxsL (allS (numP l))) Own.no],some [AV.sl ((3:Nat)) (bxsL (allS (numP l))) Own.no]],live:=[(l.length,(35:Nat)),((List.take x (List.reverse (numP l))).length,(35:Nat))] }
 { boxes:=[some [AV.sl ((3:Nat)) (bxsL (allS (numP l))) Own.no],some [AV.sl ((3:Nat)) (bxsL (allS (numP l))) Own.no]],live:=[(l.length,(35:Nat)),(l.length,(35:Nat))] } ∧
 True∧True)))) ∧
 (List.drop turn.toNat (List.take (pksL (seL (numP l))).length (pksL (seL (numP l)))) ≠ [] →
 (0:Int)≤turn ∧
 ((0:Nat)≤turn.toNat∧turn.toNat≤(pksL (seL (numP l))).length) ∧
 ((11:Nat) = (11:Nat)∨pksL (seL (numP l)) = []) ∧
 ((0:Nat) = (0:Nat)∧turn.toNat = (pksL (seL (numP l))).length →
 ((11:Nat) = (11:Nat) ∨
 [] ++
 List.drop turn.toNat
 (List.take (pksL (seL (numP l))).length (pksL (seL (numP l)))) =
 []) ∧
 (([] ++
 List.drop turn.toNat
 (List.take (pksL (seL (numP l))).length (pksL (seL (numP l))))).length +
 (List.drop ((0:Nat)) (List.take turn.toNat (pksL (seL (numP l))))).length) *
 (137:Nat) ≤
 (70368744177664:Nat) ∧
 (0:Nat) +
 (List.drop turn.toNat
 (List.take (pksL (seL (numP l))).length (pksL (seL (numP l))))).length =
 ([] ++
 List.drop turn.toNat
 (List.take (pksL (seL (numP l))).length (pksL (seL (numP l))))).length ∧
 CallIs
 (tbl
 [((7:Nat),s7),((17:Nat),s17),
 ((18:Nat),fun (args:List AV)=>s18 (List.map wk1 args)),
 ((10:Nat),s10w),((13:Nat),s13),
 ((19:Nat),fun (args:List AV)=>s19 (List.map wk1 args))]
 ((18:Nat))
 [AV.agg [AV.sl ((0:Nat)) [] Own.nil],
 AV.sl ((11:Nat))
 ([] ++
 List.drop turn.toNat
 (List.take (pksL (seL (numP l))).length (pksL (seL (numP l)))) ++
 List.drop ((0:Nat)) (List.take turn.toNat (pksL (seL (numP l)))))
 Own.no])
 (AV.tup
 [AV.agg [AV.sl ((3:Nat)) (bxsL (allS (numP l))) Own.no],
 AV.int IntKind.i64 (↑(cntS (numP l)):Int),AV.bool true])
 [] ∧
 (true = true →
 ∃ (_y:Unit),
 ValsAre
 [AV.int IntKind.i64 turn,
 AV.sl ((11:Nat)) (pksL (seL (numP l))) (Own.tok ((0:Nat))),
 AV.sl ((11:Nat))
 (pksL (seL (List.take x (List.reverse (numP l)))))
 (Own.tok ((1:Nat))),
 AV.ptr ((0:Nat)) ((0:Nat)),
 AV.int IntKind.i64 (↑(cntS (numP l)):Int),AV.bool true,
 AV.ptr ((1:Nat)) ((0:Nat)),
 AV.int IntKind.i64 (↑(cntS (numP l)):Int),AV.bool true]
 [AV.int IntKind.i64 turn,
 AV.sl ((11:Nat)) (pksL (seL (numP l))) (Own.tok ((0:Nat))),
 AV.sl ((11:Nat)) (pksL (seL (List.reverse (numP l))))
 (Own.tok ((1:Nat))),
 AV.ptr ((0:Nat)) ((0:Nat)),
 AV.int IntKind.i64 (↑(cntS (numP l)):Int),AV.bool true,
 AV.ptr ((1:Nat)) ((0:Nat)),
 AV.int IntKind.i64 (↑(cntS (numP l)):Int),AV.bool true] ∧
 StIs
 { boxes:=[some [AV.sl ((3:Nat)) (bxsL (allS (numP l))) Own.no],some [AV.sl ((3:Nat)) (bxsL (allS (numP l))) Own.no]],live:=[(l.length,(35:Nat)),((List.take x (List.reverse (numP l))).length,(35:Nat))] }
 { boxes:=[some [AV.sl ((3:Nat)) (bxsL (allS (numP l))) Own.no],some [AV.sl ((3:Nat)) (bxsL (allS (numP l))) Own.no]],live:=[(l.length,(35:Nat)),(l.length,(35:Nat))] } ∧
 True∧True) ∧
 (true = false →
 ∃ (_y:Unit),
 ValsAre
 [AV.int IntKind.i64 turn,
 AV.sl ((11:Nat)) (pksL (seL (numP l))) (Own.tok ((0:Nat))),
 AV.sl ((11:Nat))
 (pksL (seL (List.take x (List.reverse (numP l)))))
 (Own.tok ((1:Nat))),
 AV.ptr ((0:Nat)) ((0:Nat)),
 AV.int IntKind.i64 (↑(cntS (numP l)):Int),AV.bool true,
 AV.ptr ((1:Nat)) ((0:Nat)),
 AV.int IntKind.i64 (↑(cntS (numP l)):Int),AV.bool false]
 [AV.int IntKind.i64 turn,
 AV.sl ((11:Nat)) (pksL (seL (numP l))) (Own.tok ((0:Nat))),
 AV.sl ((11:Nat)) (pksL (seL (List.reverse (numP l))))
 (Own.tok ((1:Nat))),
 AV.ptr ((0:Nat)) ((0:Nat)),
 AV.int IntKind.i64 (↑(cntS (numP l)):Int),AV.bool true,
 AV.ptr ((1:Nat)) ((0:Nat)),
 AV.int IntKind.i64 (↑(cntS (numP l)):Int),AV.bool true] ∧
 StIs
 { boxes:=[some [AV.sl ((3:Nat)) (bxsL (allS (numP l))) Own.no],some [AV.sl ((3:Nat)) (bxsL (allS (numP l))) Own.no]],live:=[(l.length,(35:Nat)),((List.take x (List.reverse (numP l))).length,(35:Nat))] }
 { boxes:=[some [AV.sl ((3:Nat)) (bxsL (allS (numP l))) Own.no],some [AV.sl ((3:Nat)) (bxsL (allS (numP l))) Own.no]],live:=[(l.length,(35:Nat)),(l.length,(35:Nat))] } ∧
 True∧True)) ∧
 (¬((0:Nat) = (0:Nat)∧turn.toNat = (pksL (seL (numP l))).length) →
 ((11:Nat) = (11:Nat) ∨
 [] ++
 List.drop turn.toNat
 (List.take (pksL (seL (numP l))).length (pksL (seL (numP l)))) =
 []) ∧
 (([] ++
 List.drop turn.toNat
 (List.take (pksL (seL (numP l))).length (pksL (seL (numP l))))).length +
 (List.drop ((0:Nat)) (List.take turn.toNat (pksL (seL (numP l))))).length) *
 (137:Nat) ≤
 (70368744177664:Nat) ∧
 (0:Nat) +
 (List.drop turn.toNat
 (List.take (pksL (seL (numP l))).length (pksL (seL (numP l))))).length =
 ([] ++
 List.drop turn.toNat
 (List.take (pksL (seL (numP l))).length (pksL (seL (numP l))))).length ∧
 CallIs
 (tbl
 [((7:Nat),s7),((17:Nat),s17),
 ((18:Nat),fun (args:List AV)=>s18 (List.map wk1 args)),
 ((10:Nat),s10w),((13:Nat),s13),
 ((19:Nat),fun (args:List AV)=>s19 (List.map wk1 args))]
 ((18:Nat))
 [AV.agg [AV.sl ((0:Nat)) [] Own.nil],
 AV.sl ((11:Nat))
 ([] ++
 List.drop turn.toNat
 (List.take (pksL (seL (numP l))).length (pksL (seL (numP l)))) ++
 List.drop ((0:Nat)) (List.take turn.toNat (pksL (seL (numP l)))))
 Own.no])
 (AV.tup
 [AV.agg [AV.sl ((3:Nat)) (bxsL (allS (numP l))) Own.no],
 AV.int IntKind.i64 (↑(cntS (numP l)):Int),AV.bool true])
 [] ∧
 (true = true →
 ∃ (_y:Unit),
 ValsAre
 [AV.int IntKind.i64 turn,
 AV.sl ((11:Nat)) (pksL (seL (numP l))) (Own.tok ((0:Nat))),
 AV.sl ((11:Nat))
 (pksL (seL (List.take x (List.reverse (numP l)))))
 (Own.tok ((1:Nat))),
 AV.ptr ((0:Nat)) ((0:Nat)),
 AV.int IntKind.i64 (↑(cntS (numP l)):Int),AV.bool true,
 AV.ptr ((1:Nat)) ((0:Nat)),
 AV.int IntKind.i64 (↑(cntS (numP l)):Int),AV.bool true]
 [AV.int IntKind.i64 turn,
 AV.sl ((11:Nat)) (pksL (seL (numP l))) (Own.tok ((0:Nat))),
 AV.sl ((11:Nat)) (pksL (seL (List.reverse (numP l))))
 (Own.tok ((1:Nat))),
 AV.ptr ((0:Nat)) ((0:Nat)),
 AV.int IntKind.i64 (↑(cntS (numP l)):Int),AV.bool true,
 AV.ptr ((1:Nat)) ((0:Nat)),
 AV.int IntKind.i64 (↑(cntS (numP l)):Int),AV.bool true] ∧
 StIs
 { boxes:=[some [AV.sl ((3:Nat)) (bxsL (allS (numP l))) Own.no],some [AV.sl ((3:Nat)) (bxsL (allS (numP l))) Own.no]],live:=[(l.length,(35:Nat)),((List.take x (List.reverse (numP l))).length,(35:Nat))] }
 { boxes:=[some [AV.sl ((3:Nat)) (bxsL (allS (numP l))) Own.no],some [AV.sl ((3:Nat)) (bxsL (allS (numP l))) Own.no]],live:=[(l.length,(35:Nat)),(l.length,(35:Nat))] } ∧
 True∧True) ∧
 (true = false →
 ∃ (_y:Unit),
 ValsAre
 [AV.int IntKind.i64 turn,
 AV.sl ((11:Nat)) (pksL (seL (numP l))) (Own.tok ((0:Nat))),
 AV.sl ((11:Nat))
 (pksL (seL (List.take x (List.reverse (numP l)))))
 (Own.tok ((1:Nat))),
 AV.ptr ((0:Nat)) ((0:Nat)),
 AV.int IntKind.i64 (↑(cntS (numP l)):Int),AV.bool true,
 AV.ptr ((1:Nat)) ((0:Nat)),
 AV.int IntKind.i64 (↑(cntS (numP l)):Int),AV.bool false]
 [AV.int IntKind.i64 turn,
 AV.sl ((11:Nat)) (pksL (seL (numP l))) (Own.tok ((0:Nat))),
 AV.sl ((11:Nat)) (pksL (seL (List.reverse (numP l))))
 (Own.tok ((1:Nat))),
 AV.ptr ((0:Nat)) ((0:Nat)),
 AV.int IntKind.i64 (↑(cntS (numP l)):Int),AV.bool true,
 AV.ptr ((1:Nat)) ((0:Nat)),
 AV.int IntKind.i64 (↑(cntS (numP l)):Int),AV.bool true] ∧
 StIs
 { boxes:=[some [AV.sl ((3:Nat)) (bxsL (allS (numP l))) Own.no],some [AV.sl ((3:Nat)) (bxsL (allS (numP l))) Own.no]],live:=[(l.length,(35:Nat)),((List.take x (List.reverse (numP l))).length,(35:Nat))] }
 { boxes:=[some [AV.sl ((3:Nat)) (bxsL (allS (numP l))) Own.no],some [AV.sl ((3:Nat)) (bxsL (allS (numP l))) Own.no]],live:=[(l.length,(35:Nat)),(l.length,(35:Nat))] } ∧
 True∧True)))) ∧
 (¬(turn.toNat = (0:Nat)∧(pksL (seL (numP l))).length = (pksL (seL (numP l))).length) →
 ((11:Nat) = (11:Nat)∨([]:List AV) = []) ∧
 ((0:Nat) +
 (List.drop turn.toNat (List.take (pksL (seL (numP l))).length (pksL (seL (numP l))))).length) *
 (137:Nat) ≤
 (70368744177664:Nat) ∧
 (List.drop turn.toNat (List.take (pksL (seL (numP l))).length (pksL (seL (numP l)))) = [] →
 (0:Int)≤turn ∧
 ((0:Nat)≤turn.toNat∧turn.toNat≤(pksL (seL (numP l))).length) ∧
 ((11:Nat) = (11:Nat)∨pksL (seL (numP l)) = []) ∧
 ((0:Nat) = (0:Nat)∧turn.toNat = (pksL (seL (numP l))).length →
 ((11:Nat) = (11:Nat)∨([]:List AV) = []) ∧
 ((0:Nat) +
 (List.drop ((0:Nat)) (List.take turn.toNat (pksL (seL (numP l))))).length) *
 (137:Nat) ≤
 (70368744177664:Nat) ∧
 (List.drop ((0:Nat)) (List.take turn.toNat (pksL (seL (numP l)))) = [] →
 CallIs
 (some
 (AV.tup
 [AV.agg [AV.sl ((3:Nat)) [] Own.no],AV.int IntKind.i64 (0:Int),
 AV.bool true],
 []))
 (AV.tup
 [AV.agg [AV.sl ((3:Nat)) (bxsL (allS (numP l))) Own.no],
 AV.int IntKind.i64 (↑(cntS (numP l)):Int),AV.bool true])
 [] ∧
 (true = true →
 ∃ (_y:Unit),
 ValsAre
 [AV.int IntKind.i64 turn,
 AV.sl ((11:Nat)) (pksL (seL (numP l))) (Own.tok ((0:Nat))),
 AV.sl ((11:Nat))
 (pksL (seL (List.take x (List.reverse (numP l)))))
 (Own.tok ((1:Nat))),
 AV.ptr ((0:Nat)) ((0:Nat)),
 AV.int IntKind.i64 (↑(cntS (numP l)):Int),AV.bool true,
 AV.ptr ((1:Nat)) ((0:Nat)),
 AV.int IntKind.i64 (↑(cntS (numP l)):Int),AV.bool true]
 [AV.int IntKind.i64 turn,
 AV.sl ((11:Nat)) (pksL (seL (numP l))) (Own.tok ((0:Nat))),
 AV.sl ((11:Nat)) (pksL (seL (List.reverse (numP l))))
 (Own.tok ((1:Nat))),
 AV.ptr ((0:Nat)) ((0:Nat)),
 AV.int IntKind.i64 (↑(cntS (numP l)):Int),AV.bool true,
 AV.ptr ((1:Nat)) ((0:Nat)),
 AV.int IntKind.i64 (↑(cntS (numP l)):Int),AV.bool true] ∧
 StIs
 { boxes:=[some [AV.sl ((3:Nat)) (bxsL (allS (numP l))) Own.no],some [AV.sl ((3:Nat)) (bxsL (allS (numP l))) Own.no]],live:=[(l.length,(35:Nat)),((List.take x (List.reverse (numP l))).length,(35:Nat))] }
 { boxes:=[some [AV.sl ((3:Nat)) (bxsL (allS (numP l))) Own.no],some [AV.sl ((3:Nat)) (bxsL (allS (numP l))) Own.no]],live:=[(l.length,(35:Nat)),(l.length,(35:Nat))] } ∧
 True∧True) ∧
 (true = false →
 ∃ (_y:Unit),
 ValsAre
 [AV.int IntKind.i64 turn,
 AV.sl ((11:Nat)) (pksL (seL (numP l))) (Own.tok ((0:Nat))),
 AV.sl ((11:Nat))
 (pksL (seL (List.take x (List.reverse (numP l)))))
 (Own.tok ((1:Nat))),
 AV.ptr ((0:Nat)) ((0:Nat)),
 AV.int IntKind.i64 (↑(cntS (numP l)):Int),AV.bool true,
 AV.ptr ((1:Nat)) ((0:Nat)),
 AV.int IntKind.i64 (↑(cntS (numP l)):Int),AV.bool false]
 [AV.int IntKind.i64 turn,
 AV.sl ((11:Nat)) (pksL (seL (numP l))) (Own.tok ((0:Nat))),
 AV.sl ((11:Nat)) (pksL (seL (List.reverse (numP l))))
 (Own.tok ((1:Nat))),
 AV.ptr ((0:Nat)) ((0:Nat)),
 AV.int IntKind.i64 (↑(cntS (numP l)):Int),AV.bool true,
 AV.ptr ((1:Nat)) ((0:Nat)),
 AV.int IntKind.i64 (↑(cntS (numP l)):Int),AV.bool true] ∧
 StIs
 { boxes:=[some [AV.sl ((3:Nat)) (bxsL (allS (numP l))) Own.no],some [AV.sl ((3:Nat)) (bxsL (allS (numP l))) Own.no]],live:=[(l.length,(35:Nat)),((List.take x (List.reverse (numP l))).length,(35:Nat))] }
 { boxes:=[some [AV.sl ((3:Nat)) (bxsL (allS (numP l))) Own.no],some [AV.sl ((3:Nat)) (bxsL (allS (numP l))) Own.no]],live:=[(l.length,(35:Nat)),(l.length,(35:Nat))] } ∧
 True∧True)) ∧
 (List.drop ((0:Nat)) (List.take turn.toNat (pksL (seL (numP l)))) ≠ [] →
 CallIs
 (tbl
 [((7:Nat),s7),((17:Nat),s17),
 ((18:Nat),fun (args:List AV)=>s18 (List.map wk1 args)),
 ((10:Nat),s10w),((13:Nat),s13),
 ((19:Nat),fun (args:List AV)=>s19 (List.map wk1 args))]
 ((18:Nat))
 [AV.agg [AV.sl ((0:Nat)) [] Own.nil],
 AV.sl ((11:Nat))
 ([] ++
 List.drop ((0:Nat)) (List.take turn.toNat (pksL (seL (numP l)))))
 Own.no])
 (AV.tup
 [AV.agg [AV.sl ((3:Nat)) (bxsL (allS (numP l))) Own.no],
 AV.int IntKind.i64 (↑(cntS (numP l)):Int),AV.bool true])
 [] ∧
 (true = true →
 ∃ (_y:Unit),
 ValsAre
 [AV.int IntKind.i64 turn,
 AV.sl ((11:Nat)) (pksL (seL (numP l))) (Own.tok ((0:Nat))),
 AV.sl ((11:Nat))
 (pksL (seL (List.take x (List.reverse (numP l)))))
 (Own.tok ((1:Nat))),
 AV.ptr ((0:Nat)) ((0:Nat)),
 AV.int IntKind.i64 (↑(cntS (numP l)):Int),AV.bool true,
 AV.ptr ((1:Nat)) ((0:Nat)),
 AV.int IntKind.i64 (↑(cntS (numP l)):Int),AV.bool true]
 [AV.int IntKind.i64 turn,
 AV.sl ((11:Nat)) (pksL (seL (numP l))) (Own.tok ((0:Nat))),
 AV.sl ((11:Nat)) (pksL (seL (List.reverse (numP l))))
 (Own.tok ((1:Nat))),
 AV.ptr ((0:Nat)) ((0:Nat)),
 AV.int IntKind.i64 (↑(cntS (numP l)):Int),AV.bool true,
 AV.ptr ((1:Nat)) ((0:Nat)),
 AV.int IntKind.i64 (↑(cntS (numP l)):Int),AV.bool true] ∧
 StIs
 { boxes:=[some [AV.sl ((3:Nat)) (bxsL (allS (numP l))) Own.no],some [AV.sl ((3:Nat)) (bxsL (allS (numP l))) Own.no]],live:=[(l.length,(35:Nat)),((List.take x (List.reverse (numP l))).length,(35:Nat))] }
 { boxes:=[some [AV.sl ((3:Nat)) (bxsL (allS (numP l))) Own.no],some [AV.sl ((3:Nat)) (bxsL (allS (numP l))) Own.no]],live:=[(l.length,(35:Nat)),(l.length,(35:Nat))] } ∧
 True∧True) ∧
 (true = false →
 ∃ (_y:Unit),
 ValsAre
 [AV.int IntKind.i64 turn,
 AV.sl ((11:Nat)) (pksL (seL (numP l))) (Own.tok ((0:Nat))),
 AV.sl ((11:Nat))
 (pksL (seL (List.take x (List.reverse (numP l)))))
 (Own.tok ((1:Nat))),
 AV.ptr ((0:Nat)) ((0:Nat)),
 AV.int IntKind.i64 (↑(cntS (numP l)):Int),AV.bool true,
 AV.ptr ((1:Nat)) ((0:Nat)),
 AV.int IntKind.i64 (↑(cntS (numP l)):Int),AV.bool false]
 [AV.int IntKind.i64 turn,
 AV.sl ((11:Nat)) (pksL (seL (numP l))) (Own.tok ((0:Nat))),
 AV.sl ((11:Nat)) (pksL (seL (List.reverse (numP l))))
 (Own.tok ((1:Nat))),
 AV.ptr ((0:Nat)) ((0:Nat)),
 AV.int IntKind.i64 (↑(cntS (numP l)):Int),AV.bool true,
 AV.ptr ((1:Nat)) ((0:Nat)),
 AV.int IntKind.i64 (↑(cntS (numP l)):Int),AV.bool true] ∧
 StIs
 { boxes:=[some [AV.sl ((3:Nat)) (bxsL (allS (numP l))) Own.no],some [AV.sl ((3:Nat)) (bxsL (allS (numP l))) Own.no]],live:=[(l.length,(35:Nat)),((List.take x (List.reverse (numP l))).length,(35:Nat))] }
 { boxes:=[some [AV.sl ((3:Nat)) (bxsL (allS (numP l))) Own.no],some [AV.sl ((3:Nat)) (bxsL (allS (numP l))) Own.no]],live:=[(l.length,(35:Nat)),(l.length,(35:Nat))] } ∧
 True∧True))) ∧
 (¬((0:Nat) = (0:Nat)∧turn.toNat = (pksL (seL (numP l))).length) →
 ((11:Nat) = (11:Nat)∨([]:List AV) = []) ∧
 ((0:Nat) +
 (List.drop ((0:Nat)) (List.take turn.toNat (pksL (seL (numP l))))).length) *
 (137:Nat) ≤
 (70368744177664:Nat) ∧
 (List.drop ((0:Nat)) (List.take turn.toNat (pksL (seL (numP l)))) = [] →
 CallIs
 (some
 (AV.tup
 [AV.agg [AV.sl ((3:Nat)) [] Own.no],AV.int IntKind.i64 (0:Int),
 AV.bool true],
 []))
 (AV.tup
 [AV.agg [AV.sl ((3:Nat)) (bxsL (allS (numP l))) Own.no],
 AV.int IntKind.i64 (↑(cntS (numP l)):Int),AV.bool true])
 [] ∧
 (true = true →
 ∃ (_y:Unit),
 ValsAre
 [AV.int IntKind.i64 turn,
 AV.sl ((11:Nat)) (pksL (seL (numP l))) (Own.tok ((0:Nat))),
 AV.sl ((11:Nat))
 (pksL (seL (List.take x (List.reverse (numP l)))))
 (Own.tok ((1:Nat))),
 AV.ptr ((0:Nat)) ((0:Nat)),
 AV.int IntKind.i64 (↑(cntS (numP l)):Int),AV.bool true,
 AV.ptr ((1:Nat)) ((0:Nat)),
 AV.int IntKind.i64 (↑(cntS (numP l)):Int),AV.bool true]
 [AV.int IntKind.i64 turn,
 AV.sl ((11:Nat)) (pksL (seL (numP l))) (Own.tok ((0:Nat))),
 AV.sl ((11:Nat)) (pksL (seL (List.reverse (numP l))))
 (Own.tok ((1:Nat))),
 AV.ptr ((0:Nat)) ((0:Nat)),
 AV.int IntKind.i64 (↑(cntS (numP l)):Int),AV.bool true,
 AV.ptr ((1:Nat)) ((0:Nat)),
 AV.int IntKind.i64 (↑(cntS (numP l)):Int),AV.bool true] ∧
 StIs
 { boxes:=[some [AV.sl ((3:Nat)) (bxsL (allS (numP l))) Own.no],some [AV.sl ((3:Nat)) (bxsL (allS (numP l))) Own.no]],live:=[(l.length,(35:Nat)),((List.take x (List.reverse (numP l))).length,(35:Nat))] }
 { boxes:=[some [AV.sl ((3:Nat)) (bxsL (allS (numP l))) Own.no],some [AV.sl ((3:Nat)) (bxsL (allS (numP l))) Own.no]],live:=[(l.length,(35:Nat)),(l.length,(35:Nat))] } ∧
 True∧True) ∧
 (true = false →
 ∃ (_y:Unit),
 ValsAre
 [AV.int IntKind.i64 turn,
 AV.sl ((11:Nat)) (pksL (seL (numP l))) (Own.tok ((0:Nat))),
 AV.sl ((11:Nat))
 (pksL (seL (List.take x (List.reverse (numP l)))))
 (Own.tok ((1:Nat))),
 AV.ptr ((0:Nat)) ((0:Nat)),
 AV.int IntKind.i64 (↑(cntS (numP l)):Int),AV.bool true,
 AV.ptr ((1:Nat)) ((0:Nat)),
 AV.int IntKind.i64 (↑(cntS (numP l)):Int),AV.bool false]
 [AV.int IntKind.i64 turn,
 AV.sl ((11:Nat)) (pksL (seL (numP l))) (Own.tok ((0:Nat))),
 AV.sl ((11:Nat)) (pksL (seL (List.reverse (numP l))))
 (Own.tok ((1:Nat))),
 AV.ptr ((0:Nat)) ((0:Nat)),
 AV.int IntKind.i64 (↑(cntS (numP l)):Int),AV.bool true,
 AV.ptr ((1:Nat)) ((0:Nat)),
 AV.int IntKind.i64 (↑(cntS (numP l)):Int),AV.bool true] ∧
 StIs
 { boxes:=[some [AV.sl ((3:Nat)) (bxsL (allS (numP l))) Own.no],some [AV.sl ((3:Nat)) (bxsL (allS (numP l))) Own.no]],live:=[(l.length,(35:Nat)),((List.take x (List.reverse (numP l))).length,(35:Nat))] }
 { boxes:=[some [AV.sl ((3:Nat)) (bxsL (allS (numP l))) Own.no],some [AV.sl ((3:Nat)) (bxsL (allS (numP l))) Own.no]],live:=[(l.length,(35:Nat)),(l.length,(35:Nat))] } ∧
 True∧True)) ∧
 (List.drop ((0:Nat)) (List.take turn.toNat (pksL (seL (numP l)))) ≠ [] →
 CallIs
 (tbl
 [((7:Nat),s7),((17:Nat),s17),
 ((18:Nat),fun (args:List AV)=>s18 (List.map wk1 args)),
 ((10:Nat),s10w),((13:Nat),s13),
 ((19:Nat),fun (args:List AV)=>s19 (List.map wk1 args))]
 ((18:Nat))
 [AV.agg [AV.sl ((0:Nat)) [] Own.nil],
 AV.sl ((11:Nat))
 ([] ++
 List.drop ((0:Nat)) (List.take turn.toNat (pksL (seL (numP l)))))
 Own.no])
 (AV.tup
 [AV.agg [AV.sl ((3:Nat)) (bxsL (allS (numP l))) Own.no],
 AV.int IntKind.i64 (↑(cntS (numP l)):Int),AV.bool true])
 [] ∧
 (true = true →
 ∃ (_y:Unit),
 ValsAre
 [AV.int IntKind.i64 turn,
 AV.sl ((11:Nat)) (pksL (seL (numP l))) (Own.tok ((0:Nat))),
 AV.sl ((11:Nat))
 (pksL (seL (List.take x (List.reverse (numP l)))))
 (Own.tok ((1:Nat))),
 AV.ptr ((0:Nat)) ((0:Nat)),
 AV.int IntKind.i64 (↑(cntS (numP l)):Int),AV.bool true,
 AV.ptr ((1:Nat)) ((0:Nat)),
 AV.int IntKind.i64 (↑(cntS (numP l)):Int),AV.bool true]
 [AV.int IntKind.i64 turn,
 AV.sl ((11:Nat)) (pksL (seL (numP l))) (Own.tok ((0:Nat))),
 AV.sl ((11:Nat)) (pksL (seL (List.reverse (numP l))))
 (Own.tok ((1:Nat))),
 AV.ptr ((0:Nat)) ((0:Nat)),
 AV.int IntKind.i64 (↑(cntS (numP l)):Int),AV.bool true,
 AV.ptr ((1:Nat)) ((0:Nat)),
 AV.int IntKind.i64 (↑(cntS (numP l)):Int),AV.bool true] ∧
 StIs
 { boxes:=[some [AV.sl ((3:Nat)) (bxsL (allS (numP l))) Own.no],some [AV.sl ((3:Nat)) (bxsL (allS (numP l))) Own.no]],live:=[(l.length,(35:Nat)),((List.take x (List.reverse (numP l))).length,(35:Nat))] }
 { boxes:=[some [AV.sl ((3:Nat)) (bxsL (allS (numP l))) Own.no],some [AV.sl ((3:Nat)) (bxsL (allS (numP l))) Own.no]],live:=[(l.length,(35:Nat)),(l.length,(35:Nat))] } ∧
 True∧True) ∧
 (true = false →
 ∃ (_y:Unit),
 ValsAre
 [AV.int IntKind.i64 turn,
 AV.sl ((11:Nat)) (pksL (seL (numP l))) (Own.tok ((0:Nat))),
 AV.sl ((11:Nat))
 (pksL (seL (List.take x (List.reverse (numP l)))))
 (Own.tok ((1:Nat))),
 AV.ptr ((0:Nat)) ((0:Nat)),
 AV.int IntKind.i64 (↑(cntS (numP l)):Int),AV.bool true,
 AV.ptr ((1:Nat)) ((0:Nat)),
 AV.int IntKind.i64 (↑(cntS (numP l)):Int),AV.bool false]
 [AV.int IntKind.i64 turn,
 AV.sl ((11:Nat)) (pksL (seL (numP l))) (Own.tok ((0:Nat))),
 AV.sl ((11:Nat)) (pksL (seL (List.reverse (numP l))))
 (Own.tok ((1:Nat))),
 AV.ptr ((0:Nat)) ((0:Nat)),
 AV.int IntKind.i64 (↑(cntS (numP l)):Int),AV.bool true,
 AV.ptr ((1:Nat)) ((0:Nat)),
 AV.int IntKind.i64 (↑(cntS (numP l)):Int),AV.bool true] ∧
 StIs
 { boxes:=[some [AV.sl ((3:Nat)) (bxsL (allS (numP l))) Own.no],some [AV.sl ((3:Nat)) (bxsL (allS (numP l))) Own.no]],live:=[(l.length,(35:Nat)),((List.take x (List.reverse (numP l))).length,(35:Nat))] }
 { boxes:=[some [AV.sl ((3:Nat)) (bxsL (allS (numP l))) Own.no],some [AV.sl ((3:Nat)) (bxsL (allS (numP l))) Own.no]],live:=[(l.length,(35:Nat)),(l.length,(35:Nat))] } ∧
 True∧True)))) ∧
 (List.drop turn.toNat (List.take (pksL (seL (numP l))).length (pksL (seL (numP l)))) ≠ [] →
 (0:Int)≤turn ∧
 ((0:Nat)≤turn.toNat∧turn.toNat≤(pksL (seL (numP l))).length) ∧
 ((11:Nat) = (11:Nat)∨pksL (seL (numP l)) = []) ∧
 ((0:Nat) = (0:Nat)∧turn.toNat = (pksL (seL (numP l))).length →
 ((11:Nat) = (11:Nat) ∨
 [] ++
 List.drop turn.toNat
 (List.take (pksL (seL (numP l))).length (pksL (seL (numP l)))) =
 []) ∧
 (([] ++
 List.drop turn.toNat
 (List.take (pksL (seL (numP l))).length (pksL (seL (numP l))))).length +
 (List.drop ((0:Nat)) (List.take turn.toNat (pksL (seL (numP l))))).length) *
 (137:Nat) ≤
 (70368744177664:Nat) ∧
 (0:Nat) +
 (List.drop turn.toNat
 (List.take (pksL (seL (numP l))).length (pksL (seL (numP l))))).length =
 ([] ++
 List.drop turn.toNat
 (List.take (pksL (seL (numP l))).length (pksL (seL (numP l))))).length ∧
 CallIs
 (tbl
 [((7:Nat),s7),((17:Nat),s17),
 ((18:Nat),fun (args:List AV)=>s18 (List.map wk1 args)),
 ((10:Nat),s10w),((13:Nat),s13),
 ((19:Nat),fun (args:List AV)=>s19 (List.map wk1 args))]
 ((18:Nat))
 [AV.agg [AV.sl ((0:Nat)) [] Own.nil],
 AV.sl ((11:Nat))
 ([] ++
 List.drop turn.toNat
 (List.take (pksL (seL (numP l))).length (pksL (seL (numP l)))) ++
 List.drop ((0:Nat)) (List.take turn.toNat (pksL (seL (numP l)))))
 Own.no])
 (AV.tup
 [AV.agg [AV.sl ((3:Nat)) (bxsL (allS (numP l))) Own.no],
 AV.int IntKind.i64 (↑(cntS (numP l)):Int),AV.bool true])
 [] ∧
 (true = true →
 ∃ (_y:Unit),
 ValsAre
 [AV.int IntKind.i64 turn,
 AV.sl ((11:Nat)) (pksL (seL (numP l))) (Own.tok ((0:Nat))),
 AV.sl ((11:Nat))
 (pksL (seL (List.take x (List.reverse (numP l)))))
 (Own.tok ((1:Nat))),
 AV.ptr ((0:Nat)) ((0:Nat)),
 AV.int IntKind.i64 (↑(cntS (numP l)):Int),AV.bool true,
 AV.ptr ((1:Nat)) ((0:Nat)),
 AV.int IntKind.i64 (↑(cntS (numP l)):Int),AV.bool true]
 [AV.int IntKind.i64 turn,
 AV.sl ((11:Nat)) (pksL (seL (numP l))) (Own.tok ((0:Nat))),
 AV.sl ((11:Nat)) (pksL (seL (List.reverse (numP l))))
 (Own.tok ((1:Nat))),
 AV.ptr ((0:Nat)) ((0:Nat)),
 AV.int IntKind.i64 (↑(cntS (numP l)):Int),AV.bool true,
 AV.ptr ((1:Nat)) ((0:Nat)),
 AV.int IntKind.i64 (↑(cntS (numP l)):Int),AV.bool true] ∧
 StIs
 { boxes:=[some [AV.sl ((3:Nat)) (bxsL (allS (numP l))) Own.no],some [AV.sl ((3:Nat)) (bxsL (allS (numP l))) Own.no]],live:=[(l.length,(35:Nat)),((List.take x (List.reverse (numP l))).length,(35:Nat))] }
 { boxes:=[some [AV.sl ((3:Nat)) (bxsL (allS (numP l))) Own.no],some [AV.sl ((3:Nat)) (bxsL (allS (numP l))) Own.no]],live:=[(l.length,(35:Nat)),(l.length,(35:Nat))] } ∧
 True∧True) ∧
 (true = false →
 ∃ (_y:Unit),
 ValsAre
 [AV.int IntKind.i64 turn,
 AV.sl ((11:Nat)) (pksL (seL (numP l))) (Own.tok ((0:Nat))),
 AV.sl ((11:Nat))
 (pksL (seL (List.take x (List.reverse (numP l)))))
 (Own.tok ((1:Nat))),
 AV.ptr ((0:Nat)) ((0:Nat)),
 AV.int IntKind.i64 (↑(cntS (numP l)):Int),AV.bool true,
 AV.ptr ((1:Nat)) ((0:Nat)),
 AV.int IntKind.i64 (↑(cntS (numP l)):Int),AV.bool false]
 [AV.int IntKind.i64 turn,
 AV.sl ((11:Nat)) (pksL (seL (numP l))) (Own.tok ((0:Nat))),
 AV.sl ((11:Nat)) (pksL (seL (List.reverse (numP l))))
 (Own.tok ((1:Nat))),
 AV.ptr ((0:Nat)) ((0:Nat)),
 AV.int IntKind.i64 (↑(cntS (numP l)):Int),AV.bool true,
 AV.ptr ((1:Nat)) ((0:Nat)),
 AV.int IntKind.i64 (↑(cntS (numP l)):Int),AV.bool true] ∧
 StIs
 { boxes:=[some [AV.sl ((3:Nat)) (bxsL (allS (numP l))) Own.no],some [AV.sl ((3:Nat)) (bxsL (allS (numP l))) Own.no]],live:=[(l.length,(35:Nat)),((List.take x (List.reverse (numP l))).length,(35:Nat))] }
 { boxes:=[some [AV.sl ((3:Nat)) (bxsL (allS (numP l))) Own.no],some [AV.sl ((3:Nat)) (bxsL (allS (numP l))) Own.no]],live:=[(l.length,(35:Nat)),(l.length,(35:Nat))] } ∧
 True∧True)) ∧
 (¬((0:Nat) = (0:Nat)∧turn.toNat = (pksL (seL (numP l))).length) →
 ((11:Nat) = (11:Nat) ∨
 [] ++
 List.drop turn.toNat
 (List.take (pksL (seL (numP l))).length (pksL (seL (numP l)))) =
 []) ∧
 (([] ++
 List.drop turn.toNat
 (List.take (pksL (seL (numP l))).length (pksL (seL (numP l))))).length +
 (List.drop ((0:Nat)) (List.take turn.toNat (pksL (seL (numP l))))).length) *
 (137:Nat) ≤
 (70368744177664:Nat) ∧
 (0:Nat) +
 (List.drop turn.toNat
 (List.take (pksL (seL (numP l))).length (pksL (seL (numP l))))).length =
 ([] ++
 List.drop turn.toNat
 (List.take (pksL (seL (numP l))).length (pksL (seL (numP l))))).length ∧
 CallIs
 (tbl
 [((7:Nat),s7),((17:Nat),s17),
 ((18:Nat),fun (args:List AV)=>s18 (List.map wk1 args)),
 ((10:Nat),s10w),((13:Nat),s13),
 ((19:Nat),fun (args:List AV)=>s19 (List.map wk1 args))]
 ((18:Nat))
 [AV.agg [AV.sl ((0:Nat)) [] Own.nil],
 AV.sl ((11:Nat))
 ([] ++
 List.drop turn.toNat
 (List.take (pksL (seL (numP l))).length (pksL (seL (numP l)))) ++
 List.drop ((0:Nat)) (List.take turn.toNat (pksL (seL (numP l)))))
 Own.no])
 (AV.tup
 [AV.agg [AV.sl ((3:Nat)) (bxsL (allS (numP l))) Own.no],
 AV.int IntKind.i64 (↑(cntS (numP l)):Int),AV.bool true])
 [] ∧
 (true = true →
 ∃ (_y:Unit),
 ValsAre
 [AV.int IntKind.i64 turn,
 AV.sl ((11:Nat)) (pksL (seL (numP l))) (Own.tok ((0:Nat))),
 AV.sl ((11:Nat))
 (pksL (seL (List.take x (List.reverse (numP l)))))
 (Own.tok ((1:Nat))),
 AV.ptr ((0:Nat)) ((0:Nat)),
 AV.int IntKind.i64 (↑(cntS (numP l)):Int),AV.bool true,
 AV.ptr ((1:Nat)) ((0:Nat)),
 AV.int IntKind.i64 (↑(cntS (numP l)):Int),AV.bool true]
 [AV.int IntKind.i64 turn,
 AV.sl ((11:Nat)) (pksL (seL (numP l))) (Own.tok ((0:Nat))),
 AV.sl ((11:Nat)) (pksL (seL (List.reverse (numP l))))
 (Own.tok ((1:Nat))),
 AV.ptr ((0:Nat)) ((0:Nat)),
 AV.int IntKind.i64 (↑(cntS (numP l)):Int),AV.bool true,
 AV.ptr ((1:Nat)) ((0:Nat)),
 AV.int IntKind.i64 (↑(cntS (numP l)):Int),AV.bool true] ∧
 StIs
 { boxes:=[some [AV.sl ((3:Nat)) (bxsL (allS (numP l))) Own.no],some [AV.sl ((3:Nat)) (bxsL (allS (numP l))) Own.no]],live:=[(l.length,(35:Nat)),((List.take x (List.reverse (numP l))).length,(35:Nat))] }
 { boxes:=[some [AV.sl ((3:Nat)) (bxsL (allS (numP l))) Own.no],some [AV.sl ((3:Nat)) (bxsL (allS (numP l))) Own.no]],live:=[(l.length,(35:Nat)),(l.length,(35:Nat))] } ∧
 True∧True) ∧
 (true = false →
 ∃ (_y:Unit),
 ValsAre
 [AV.int IntKind.i64 turn,
 AV.sl ((11:Nat)) (pksL (seL (numP l))) (Own.tok ((0:Nat))),
 AV.sl ((11:Nat))
 (pksL (seL (List.take x (List.reverse (numP l)))))
 (Own.tok ((1:Nat))),
 AV.ptr ((0:Nat)) ((0:Nat)),
 AV.int IntKind.i64 (↑(cntS (numP l)):Int),AV.bool true,
 AV.ptr ((1:Nat)) ((0:Nat)),
 AV.int IntKind.i64 (↑(cntS (numP l)):Int),AV.bool false]
 [AV.int IntKind.i64 turn,
 AV.sl ((11:Nat)) (pksL (seL (numP l))) (Own.tok ((0:Nat))),
 AV.sl ((11:Nat)) (pksL (seL (List.reverse (numP l))))
 (Own.tok ((1:Nat))),
 AV.ptr ((0:Nat)) ((0:Nat)),
 AV.int IntKind.i64 (↑(cntS (numP l)):Int),AV.bool true,
 AV.ptr ((1:Nat)) ((0:Nat)),
 AV.int IntKind.i64 (↑(cntS (numP l)):Int),AV.bool true] ∧
 StIs
 { boxes:=[some [AV.sl ((3:Nat)) (bxsL (allS (numP l))) Own.no],some [AV.sl ((3:Nat)) (bxsL (allS (numP l))) Own.no]],live:=[(l.length,(35:Nat)),((List.take x (List.reverse (numP l))).length,(35:Nat))] }
 { boxes:=[some [AV.sl ((3:Nat)) (bxsL (allS (numP l))) Own.no],some [AV.sl ((3:Nat)) (bxsL (allS (numP l))) Own.no]],live:=[(l.length,(35:Nat)),(l.length,(35:Nat))] } ∧
 True∧True))))) ∧
 ∀ (_x:Unit),
 True →
 True →
 (((11:Nat) = (11:Nat)∨pksL (seL (List.reverse (numP l))) = []) ∧
 ((pksL (seL (List.reverse (numP l)))).length + (pksL (seL (numP l))).length) * (137:Nat) ≤
 (70368744177664:Nat) ∧
 l.length = (pksL (seL (List.reverse (numP l)))).length ∧
 CallIs
 (tbl
 [((7:Nat),s7),((17:Nat),s17),
 ((18:Nat),fun (args:List AV)=>s18 (List.map wk1 args)),((10:Nat),s10w),
 ((13:Nat),s13),((19:Nat),fun (args:List AV)=>s19 (List.map wk1 args))]
 ((18:Nat))
 [AV.agg [AV.sl ((0:Nat)) [] Own.nil],
 AV.sl ((11:Nat)) (pksL (seL (List.reverse (numP l))) ++ pksL (seL (numP l))) Own.no])
 (AV.tup
 [AV.agg [AV.sl ((3:Nat)) (bxsL (allS (numP l))) Own.no],
 AV.int IntKind.i64 (↑(cntS (numP l)):Int),AV.bool true])
 [] ∧
 (true = true →
 ∃ (_y:Unit),
 ValsAre
 [AV.int IntKind.i64 turn,AV.sl ((11:Nat)) (pksL (seL (numP l))) (Own.tok ((0:Nat))),
 AV.ptr ((0:Nat)) ((0:Nat)),AV.int IntKind.i64 (↑(cntS (numP l)):Int),
 AV.bool true,AV.ptr ((1:Nat)) ((0:Nat)),
 AV.int IntKind.i64 (↑(cntS (numP l)):Int),AV.bool true,
 AV.ptr ((2:Nat)) ((0:Nat)),AV.int IntKind.i64 (↑(cntS (numP l)):Int),
 AV.bool true]
 [AV.int IntKind.i64 turn,AV.sl ((11:Nat)) (pksL (seL (numP l))) (Own.tok ((0:Nat))),
 AV.ptr ((0:Nat)) ((0:Nat)),AV.int IntKind.i64 (↑(cntS (numP l)):Int),
 AV.bool true,AV.ptr ((1:Nat)) ((0:Nat)),
 AV.int IntKind.i64 (↑(cntS (numP l)):Int),AV.bool true,
 AV.ptr ((2:Nat)) ((0:Nat)),AV.int IntKind.i64 (↑(cntS (numP l)):Int),
 AV.bool true] ∧
 StIs
 { boxes:=[some [AV.sl ((3:Nat)) (bxsL (allS (numP l))) Own.no],some [AV.sl ((3:Nat)) (bxsL (allS (numP l))) Own.no],some [AV.sl ((3:Nat)) (bxsL (allS (numP l))) Own.no]],live:=[(l.length,(35:Nat)),((pksL (seL (List.reverse (numP l)))).length + (pksL (seL (numP l))).length,(35:Nat))] }
 { boxes:=[some [AV.sl ((3:Nat)) (bxsL (allS (numP l))) Own.no],some [AV.sl ((3:Nat)) (bxsL (allS (numP l))) Own.no],some [AV.sl ((3:Nat)) (bxsL (allS (numP l))) Own.no]],live:=[(l.length,(35:Nat)),(l.length + l.length,(35:Nat))] } ∧
 True∧True) ∧
 (true = false →
 ∃ (_y:Unit),
 ValsAre
 [AV.int IntKind.i64 turn,AV.sl ((11:Nat)) (pksL (seL (numP l))) (Own.tok ((0:Nat))),
 AV.ptr ((0:Nat)) ((0:Nat)),AV.int IntKind.i64 (↑(cntS (numP l)):Int),
 AV.bool true,AV.ptr ((1:Nat)) ((0:Nat)),
 AV.int IntKind.i64 (↑(cntS (numP l)):Int),AV.bool true,
 AV.ptr ((2:Nat)) ((0:Nat)),AV.int IntKind.i64 (↑(cntS (numP l)):Int),
 AV.bool false]
 [AV.int IntKind.i64 turn,AV.sl ((11:Nat)) (pksL (seL (numP l))) (Own.tok ((0:Nat))),
 AV.ptr ((0:Nat)) ((0:Nat)),AV.int IntKind.i64 (↑(cntS (numP l)):Int),
 AV.bool true,AV.ptr ((1:Nat)) ((0:Nat)),
 AV.int IntKind.i64 (↑(cntS (numP l)):Int),AV.bool true,
 AV.ptr ((2:Nat)) ((0:Nat)),AV.int IntKind.i64 (↑(cntS (numP l)):Int),
 AV.bool true] ∧
 StIs
 { boxes:=[some [AV.sl ((3:Nat)) (bxsL (allS (numP l))) Own.no],some [AV.sl ((3:Nat)) (bxsL (allS (numP l))) Own.no],some [AV.sl ((3:Nat)) (bxsL (allS (numP l))) Own.no]],live:=[(l.length,(35:Nat)),((pksL (seL (List.reverse (numP l)))).length + (pksL (seL (numP l))).length,(35:Nat))] }
 { boxes:=[some [AV.sl ((3:Nat)) (bxsL (allS (numP l))) Own.no],some [AV.sl ((3:Nat)) (bxsL (allS (numP l))) Own.no],some [AV.sl ((3:Nat)) (bxsL (allS (numP l))) Own.no]],live:=[(l.length,(35:Nat)),(l.length + l.length,(35:Nat))] } ∧
 True∧True)) ∧
 ∀ (_x:Unit),
 True →
 True →
 ((0:Int)≤turn∧turn < (↑(pksL (seL (numP l))).length:Int)) ∧
 ∃ (s:List UInt8),
 ∃ (b:Bool),
 ∃ (n:Int),
 ∃ (s_1:List UInt8),
 ∃ (n_1:Int),
 ∃ (n_2:Int),
 ∃ (n_3:Int),
 ∃ (s_2:List UInt8),
 ∃ (s_3:List UInt8),
 ∃ (n_4:Int),
 ∃ (es:List AV),
 takeAt PI ((35:Nat)) (pksL (seL (numP l))) turn.toNat ((0:Nat)) =
 some
 (AV.agg
 [AV.str s,AV.bool b,AV.int IntKind.i64 n,AV.str s_1,
 AV.int IntKind.i64 n_1,AV.int IntKind.i64 n_2,
 AV.int IntKind.i64 n_3,AV.str s_2,AV.str s_3,
 AV.int IntKind.i64 n_4,AV.sl ((3:Nat)) es Own.no]) ∧
 ∃ (n_5:Int),
 CallIs
 (tbl
 [((7:Nat),s7),((17:Nat),s17),
 ((18:Nat),fun (args:List AV)=>s18 (List.map wk1 args)),
 ((10:Nat),s10w),((13:Nat),s13),
 ((19:Nat),fun (args:List AV)=>s19 (List.map wk1 args))]
 ((10:Nat))
 [AV.agg [AV.sl ((3:Nat)) (bxsL (allS (numP l))) Own.no],
 AV.agg
 [AV.str s,AV.bool b,AV.int IntKind.i64 n,AV.str s_1,
 AV.int IntKind.i64 n_1,AV.int IntKind.i64 n_2,
 AV.int IntKind.i64 n_3,AV.str s_2,AV.str s_3,
 AV.int IntKind.i64 n_4,AV.sl ((3:Nat)) es Own.no]])
 (AV.tup
 [AV.agg [AV.sl ((3:Nat)) (bxsL (allS (numP l))) Own.no],
 AV.bool false,
 AV.agg
 [AV.str [(97:UInt8),(112:UInt8),(112:UInt8)],
 AV.bool true,AV.int IntKind.i64 n_5,AV.str [],
 AV.int IntKind.i64 (0:Int),AV.int IntKind.i64 (0:Int),
 AV.int IntKind.i64 (0:Int),AV.str [],AV.str [],
 AV.int IntKind.i64 (0:Int),AV.sl ((3:Nat)) [] Own.no],
 AV.int IntKind.i64 (0:Int)])
 [] ∧
 (false = true →
 (((↑(bxsL (allS (numP l))).length:Int) != (1:Int)) = true →
 RetIs (AV.bool false) [] (AV.bool true,[])) ∧
 (((↑(bxsL (allS (numP l))).length:Int) != (1:Int)) = false →
 (((↑(cntS (numP l)):Int) == (↑(cntS (numP l)):Int)) = true →
 (((↑(cntS (numP l)):Int) == (↑(cntS (numP l)):Int)) =
 true →
 CallIs
 (tbl
 [((7:Nat),s7),((17:Nat),s17),
 ((18:Nat),fun (args:List AV) =>
 s18 (List.map wk1 args)),
 ((10:Nat),s10w),((13:Nat),s13),
 ((19:Nat),fun (args:List AV) =>
 s19 (List.map wk1 args))]
 ((13:Nat))
 [AV.agg
 [AV.sl ((3:Nat)) (bxsL (allS (numP l)))
 Own.no],
 AV.agg
 [AV.sl ((3:Nat)) (bxsL (allS (numP l)))
 Own.no]])
 (AV.bool true) [] ∧
 (true = true →
 CallIs
 (tbl
 [((7:Nat),s7),((17:Nat),s17),
 ((18:Nat),fun (args:List AV) =>
 s18 (List.map wk1 args)),
 ((10:Nat),s10w),((13:Nat),s13),
 ((19:Nat),fun (args:List AV) =>
 s19 (List.map wk1 args))]
 ((13:Nat))
 [AV.agg
 [AV.sl ((3:Nat))
 (bxsL (allS (numP l))) Own.no],
 AV.agg
 [AV.sl ((3:Nat))
 (bxsL (allS (numP l))) Own.no]])
 (AV.bool true) [] ∧
 (true = true →
 (true = true →
 RetIs (AV.bool false) []
 (AV.bool true,[])) ∧
 (true = false →
 RetIs (AV.bool false) []
 (AV.bool true,[]))) ∧
 (true = false →
 RetIs (AV.bool false) []
 (AV.bool true,[]))) ∧
 (true = false →
 RetIs (AV.bool false) [] (AV.bool true,[]))) ∧
 (((↑(cntS (numP l)):Int) == (↑(cntS (numP l)):Int)) =
 false →
 RetIs (AV.bool false) [] (AV.bool true,[]))) ∧
 (((↑(cntS (numP l)):Int) == (↑(cntS (numP l)):Int)) =
 false →
 RetIs (AV.bool false) [] (AV.bool true,[])))) ∧
 (false = false →
 (((↑(bxsL (allS (numP l))).length:Int) != (1:Int)) = true →
 RetIs (AV.bool false) [] (AV.bool true,[])) ∧
 (((↑(bxsL (allS (numP l))).length:Int) != (1:Int)) = false →
 (((↑(cntS (numP l)):Int) == (↑(cntS (numP l)):Int)) = true →
 (((↑(cntS (numP l)):Int) == (↑(cntS (numP l)):Int)) =
 true →
 CallIs
 (tbl
 [((7:Nat),s7),((17:Nat),s17),
 ((18:Nat),fun (args:List AV) =>
 s18 (List.map wk1 args)),
 ((10:Nat),s10w),((13:Nat),s13),
 ((19:Nat),fun (args:List AV) =>
 s19 (List.map wk1 args))]
 ((13:Nat))
 [AV.agg
 [AV.sl ((3:Nat)) (bxsL (allS (numP l)))
 Own.no],
 AV.agg
 [AV.sl ((3:Nat)) (bxsL (allS (numP l)))
 Own.no]])
 (AV.bool true) [] ∧
 (true = true →
 CallIs
 (tbl
 [((7:Nat),s7),((17:Nat),s17),
 ((18:Nat),fun (args:List AV) =>
 s18 (List.map wk1 args)),
 ((10:Nat),s10w),((13:Nat),s13),
 ((19:Nat),fun (args:List AV) =>
 s19 (List.map wk1 args))]
 ((13:Nat))
 [AV.agg
 [AV.sl ((3:Nat))
 (bxsL (allS (numP l))) Own.no],
 AV.agg
 [AV.sl ((3:Nat))
 (bxsL (allS (numP l))) Own.no]])
 (AV.bool true) [] ∧
 (true = true →
 (true = true →
 CallIs
 (tbl
 [((7:Nat),s7),
 ((17:Nat),s17),
 ((18:Nat),
 fun (args:List AV) =>
 s18 (List.map wk1 args)),
 ((10:Nat),s10w),
 ((13:Nat),s13),
 ((19:Nat),
 fun (args:List AV) =>
 s19 (List.map wk1 args))]
 ((13:Nat))
 [AV.agg
 [AV.sl ((3:Nat))
 (bxsL (allS (numP l)))
 Own.no],
 AV.agg
 [AV.sl ((3:Nat))
 (bxsL (allS (numP l)))
 Own.no]])
 (AV.bool true) [] ∧
 (true = true →
 ((0:Int)≤(0:Int) ∧
 (0:Int) <
 (↑(bxsL
 (allS
 (numP
 l))).length :
 Int)) ∧
 ∃ (n:Int),
 takeAt PI ((3:Nat))
 (bxsL (allS (numP l)))
 ((0:Nat))
 ((1:Nat)) =
 some
 (AV.int IntKind.i64 n) ∧
 ((n_5 == n) = true →
 ((11:Nat) =
 (11:Nat) ∨
 pksL
 (seL (numP l)) =
 []) ∧
 ((pksL
 (seL
 (numP
 l))).length +
 (1:Nat)) *
 (137:Nat) ≤
 nat_lit
 70368744177664 ∧
 l.length =
 (pksL
 (seL
 (numP
 l))).length ∧
 CallIs
 (tbl
 [((7:Nat),
 s7),
 (nat_lit
 17,
 s17),
 (nat_lit
 18,
 fun
 (args :
 List
 AV) =>
 s18
 (List.map
 wk1
 args)),
 (nat_lit
 10,
 s10w),
 (nat_lit
 13,
 s13),
 (nat_lit
 19,
 fun
 (args :
 List
 AV) =>
 s19
 (List.map
 wk1
 args))]
 ((19:Nat))
 [AV.agg
 [AV.sl
 (nat_lit
 11)
 (pksL
 (seL
 (numP
 l)) ++
 [AV.agg
 [AV.str
 [(97 :
 UInt8),
 (112 :
 UInt8),
 (112 :
 UInt8)],
 AV.bool
 true,
 AV.int
 IntKind.i64
 n_5,
 AV.str
 [],
 AV.int
 IntKind.i64
 (0 :
 Int),
 AV.int
 IntKind.i64
 (0 :
 Int),
 AV.int
 IntKind.i64
 (0 :
 Int),
 AV.str
 [],
 AV.str
 [],
 AV.int
 IntKind.i64
 (0 :
 Int),
 AV.sl
 (nat_lit
 3)
 []
 Own.no]])
 Own.no]])
 (AV.int
 IntKind.i64
 (0:Int))
 [] ∧
 (true = true →
 RetIs
 (AV.bool
 true)
 []
 (AV.bool
 true,
 [])) ∧
 (true =
 false →
 RetIs
 (AV.bool
 false)
 []
 (AV.bool
 true,
 []))) ∧
 ((n_5 == n) = false →
 RetIs (AV.bool false) []
 (AV.bool true,[]))) ∧
 (true = false →
 RetIs (AV.bool false) []
 (AV.bool true,[]))) ∧
 (true = false →
 RetIs (AV.bool false) []
 (AV.bool true,[]))) ∧
 (true = false →
 RetIs (AV.bool false) []
 (AV.bool true,[]))) ∧
 (true = false →
 RetIs (AV.bool false) [] (AV.bool true,[]))) ∧
 (((↑(cntS (numP l)):Int) == (↑(cntS (numP l)):Int)) =
 false →
 RetIs (AV.bool false) [] (AV.bool true,[]))) ∧
 (((↑(cntS (numP l)):Int) == (↑(cntS (numP l)):Int)) =
 false →
 RetIs (AV.bool false) [] (AV.bool true,[]))))) ∧
 (true = false →
 ((0:Int)≤turn ∧
 (turn.toNat≤(pksL (seL (numP l))).length∧(pksL (seL (numP l))).length≤(pksL (seL (numP l))).length) ∧
 ((11:Nat) = (11:Nat)∨pksL (seL (numP l)) = []) ∧
 (turn.toNat = (0:Nat)∧(pksL (seL (numP l))).length = (pksL (seL (numP l))).length →
 ((11:Nat) = (11:Nat)∨([]:List AV) = []) ∧
 ((0:Nat) +
 (List.drop turn.toNat (List.take (pksL (seL (numP l))).length (pksL (seL (numP l))))).length) *
 (137:Nat) ≤
 (70368744177664:Nat) ∧
 (List.drop turn.toNat (List.take (pksL (seL (numP l))).length (pksL (seL (numP l)))) = [] →
 (0:Int)≤turn ∧
 ((0:Nat)≤turn.toNat∧turn.toNat≤(pksL (seL (numP l))).length) ∧
 ((11:Nat) = (11:Nat)∨pksL (seL (numP l)) = []) ∧
 ((0:Nat) = (0:Nat)∧turn.toNat = (pksL (seL (numP l))).length →
 ((11:Nat) = (11:Nat)∨([]:List AV) = []) ∧
 ((0:Nat) +
 (List.drop ((0:Nat)) (List.take turn.toNat (pksL (seL (numP l))))).length) *
 (137:Nat) ≤
 (70368744177664:Nat) ∧
 (List.drop ((0:Nat)) (List.take turn.toNat (pksL (seL (numP l)))) = [] →
 CallIs
 (some
 (AV.tup
 [AV.agg [AV.sl ((3:Nat)) [] Own.no],AV.int IntKind.i64 (0:Int),
 AV.bool true],
 []))
 (AV.tup
 [AV.agg [AV.sl ((3:Nat)) (bxsL (allS (numP l))) Own.no],
 AV.int IntKind.i64 (↑(cntS (numP l)):Int),AV.bool true])
 [] ∧
 (true = true →
 ∃ (_y:Unit),
 ValsAre
 [AV.int IntKind.i64 turn,
 AV.sl ((11:Nat)) (pksL (seL (numP l))) (Own.tok ((0:Nat))),
 AV.sl ((11:Nat))
 (pksL (seL (List.take x (List.reverse (numP l)))))
 (Own.tok ((1:Nat))),
 AV.ptr ((0:Nat)) ((0:Nat)),
 AV.int IntKind.i64 (↑(cntS (numP l)):Int),AV.bool false,
 AV.ptr ((1:Nat)) ((0:Nat)),
 AV.int IntKind.i64 (↑(cntS (numP l)):Int),AV.bool true]
 [AV.int IntKind.i64 turn,
 AV.sl ((11:Nat)) (pksL (seL (numP l))) (Own.tok ((0:Nat))),
 AV.sl ((11:Nat)) (pksL (seL (List.reverse (numP l))))
 (Own.tok ((1:Nat))),
 AV.ptr ((0:Nat)) ((0:Nat)),
 AV.int IntKind.i64 (↑(cntS (numP l)):Int),AV.bool true,
 AV.ptr ((1:Nat)) ((0:Nat)),
 AV.int IntKind.i64 (↑(cntS (numP l)):Int),AV.bool true] ∧
 StIs
 { boxes:=[some [AV.sl ((3:Nat)) (bxsL (allS (numP l))) Own.no],some [AV.sl ((3:Nat)) (bxsL (allS (numP l))) Own.no]],live:=[(l.length,(35:Nat)),((List.take x (List.reverse (numP l))).length,(35:Nat))] }
 { boxes:=[some [AV.sl ((3:Nat)) (bxsL (allS (numP l))) Own.no],some [AV.sl ((3:Nat)) (bxsL (allS (numP l))) Own.no]],live:=[(l.length,(35:Nat)),(l.length,(35:Nat))] } ∧
 True∧True) ∧
 (true = false →
 ∃ (_y:Unit),
 ValsAre
 [AV.int IntKind.i64 turn,
 AV.sl ((11:Nat)) (pksL (seL (numP l))) (Own.tok ((0:Nat))),
 AV.sl ((11:Nat))
 (pksL (seL (List.take x (List.reverse (numP l)))))
 (Own.tok ((1:Nat))),
 AV.ptr ((0:Nat)) ((0:Nat)),
 AV.int IntKind.i64 (↑(cntS (numP l)):Int),AV.bool false,
 AV.ptr ((1:Nat)) ((0:Nat)),
 AV.int IntKind.i64 (↑(cntS (numP l)):Int),AV.bool false]
 [AV.int IntKind.i64 turn,
 AV.sl ((11:Nat)) (pksL (seL (numP l))) (Own.tok ((0:Nat))),
 AV.sl ((11:Nat)) (pksL (seL (List.reverse (numP l))))
 (Own.tok ((1:Nat))),
 AV.ptr ((0:Nat)) ((0:Nat)),
 AV.int IntKind.i64 (↑(cntS (numP l)):Int),AV.bool true,
 AV.ptr ((1:Nat)) ((0:Nat)),
 AV.int IntKind.i64 (↑(cntS (numP l)):Int),AV.bool true] ∧
 StIs
 { boxes:=[some [AV.sl ((3:Nat)) (bxsL (allS (numP l))) Own.no],some [AV.sl ((3:Nat)) (bxsL (allS (numP l))) Own.no]],live:=[(l.length,(35:Nat)),((List.take x (List.reverse (numP l))).length,(35:Nat))] }
 { boxes:=[some [AV.sl ((3:Nat)) (bxsL (allS (numP l))) Own.no],some [AV.sl ((3:Nat)) (bxsL (allS (numP l))) Own.no]],live:=[(l.length,(35:Nat)),(l.length,(35:Nat))] } ∧
 True∧True)) ∧
 (List.drop ((0:Nat)) (List.take turn.toNat (pksL (seL (numP l)))) ≠ [] →
 CallIs
 (tbl
 [((7:Nat),s7),((17:Nat),s17),
 ((18:Nat),fun (args:List AV)=>s18 (List.map wk1 args)),
 ((10:Nat),s10w),((13:Nat),s13),
 ((19:Nat),fun (args:List AV)=>s19 (List.map wk1 args))]
 ((18:Nat))
 [AV.agg [AV.sl ((0:Nat)) [] Own.nil],
 AV.sl ((11:Nat))
 ([] ++
 List.drop ((0:Nat)) (List.take turn.toNat (pksL (seL (numP l)))))
 Own.no])
 (AV.tup
 [AV.agg [AV.sl ((3:Nat)) (bxsL (allS (numP l))) Own.no],
 AV.int IntKind.i64 (↑(cntS (numP l)):Int),AV.bool true])
 [] ∧
 (true = true →
 ∃ (_y:Unit),
 ValsAre
 [AV.int IntKind.i64 turn,
 AV.sl ((11:Nat)) (pksL (seL (numP l))) (Own.tok ((0:Nat))),
 AV.sl ((11:Nat))
 (pksL (seL (List.take x (List.reverse (numP l)))))
 (Own.tok ((1:Nat))),
 AV.ptr ((0:Nat)) ((0:Nat)),
 AV.int IntKind.i64 (↑(cntS (numP l)):Int),AV.bool false,
 AV.ptr ((1:Nat)) ((0:Nat)),
 AV.int IntKind.i64 (↑(cntS (numP l)):Int),AV.bool true]
 [AV.int IntKind.i64 turn,
 AV.sl ((11:Nat)) (pksL (seL (numP l))) (Own.tok ((0:Nat))),
 AV.sl ((11:Nat)) (pksL (seL (List.reverse (numP l))))
 (Own.tok ((1:Nat))),
 AV.ptr ((0:Nat)) ((0:Nat)),
 AV.int IntKind.i64 (↑(cntS (numP l)):Int),AV.bool true,
 AV.ptr ((1:Nat)) ((0:Nat)),
 AV.int IntKind.i64 (↑(cntS (numP l)):Int),AV.bool true] ∧
 StIs
 { boxes:=[some [AV.sl ((3:Nat)) (bxsL (allS (numP l))) Own.no],some [AV.sl ((3:Nat)) (bxsL (allS (numP l))) Own.no]],live:=[(l.length,(35:Nat)),((List.take x (List.reverse (numP l))).length,(35:Nat))] }
 { boxes:=[some [AV.sl ((3:Nat)) (bxsL (allS (numP l))) Own.no],some [AV.sl ((3:Nat)) (bxsL (allS (numP l))) Own.no]],live:=[(l.length,(35:Nat)),(l.length,(35:Nat))] } ∧
 True∧True) ∧
 (true = false →
 ∃ (_y:Unit),
 ValsAre
 [AV.int IntKind.i64 turn,
 AV.sl ((11:Nat)) (pksL (seL (numP l))) (Own.tok ((0:Nat))),
 AV.sl ((11:Nat))
 (pksL (seL (List.take x (List.reverse (numP l)))))
 (Own.tok ((1:Nat))),
 AV.ptr ((0:Nat)) ((0:Nat)),
 AV.int IntKind.i64 (↑(cntS (numP l)):Int),AV.bool false,
 AV.ptr ((1:Nat)) ((0:Nat)),
 AV.int IntKind.i64 (↑(cntS (numP l)):Int),AV.bool false]
 [AV.int IntKind.i64 turn,
 AV.sl ((11:Nat)) (pksL (seL (numP l))) (Own.tok ((0:Nat))),
 AV.sl ((11:Nat)) (pksL (seL (List.reverse (numP l))))
 (Own.tok ((1:Nat))),
 AV.ptr ((0:Nat)) ((0:Nat)),
 AV.int IntKind.i64 (↑(cntS (numP l)):Int),AV.bool true,
 AV.ptr ((1:Nat)) ((0:Nat)),
 AV.int IntKind.i64 (↑(cntS (numP l)):Int),AV.bool true] ∧
 StIs
 { boxes:=[some [AV.sl ((3:Nat)) (bxsL (allS (numP l))) Own.no],some [AV.sl ((3:Nat)) (bxsL (allS (numP l))) Own.no]],live:=[(l.length,(35:Nat)),((List.take x (List.reverse (numP l))).length,(35:Nat))] }
 { boxes:=[some [AV.sl ((3:Nat)) (bxsL (allS (numP l))) Own.no],some [AV.sl ((3:Nat)) (bxsL (allS (numP l))) Own.no]],live:=[(l.length,(35:Nat)),(l.length,(35:Nat))] } ∧
 True∧True))) ∧
 (¬((0:Nat) = (0:Nat)∧turn.toNat = (pksL (seL (numP l))).length) →
 ((11:Nat) = (11:Nat)∨([]:List AV) = []) ∧
 ((0:Nat) +
 (List.drop ((0:Nat)) (List.take turn.toNat (pksL (seL (numP l))))).length) *
 (137:Nat) ≤
 (70368744177664:Nat) ∧
 (List.drop ((0:Nat)) (List.take turn.toNat (pksL (seL (numP l)))) = [] →
 CallIs
 (some
 (AV.tup
 [AV.agg [AV.sl ((3:Nat)) [] Own.no],AV.int IntKind.i64 (0:Int),
 AV.bool true],
 []))
 (AV.tup
 [AV.agg [AV.sl ((3:Nat)) (bxsL (allS (numP l))) Own.no],
 AV.int IntKind.i64 (↑(cntS (numP l)):Int),AV.bool true])
 [] ∧
 (true = true →
 ∃ (_y:Unit),
 ValsAre
 [AV.int IntKind.i64 turn,
 AV.sl ((11:Nat)) (pksL (seL (numP l))) (Own.tok ((0:Nat))),
 AV.sl ((11:Nat))
 (pksL (seL (List.take x (List.reverse (numP l)))))
 (Own.tok ((1:Nat))),
 AV.ptr ((0:Nat)) ((0:Nat)),
 AV.int IntKind.i64 (↑(cntS (numP l)):Int),AV.bool false,
 AV.ptr ((1:Nat)) ((0:Nat)),
 AV.int IntKind.i64 (↑(cntS (numP l)):Int),AV.bool true]
 [AV.int IntKind.i64 turn,
 AV.sl ((11:Nat)) (pksL (seL (numP l))) (Own.tok ((0:Nat))),
 AV.sl ((11:Nat)) (pksL (seL (List.reverse (numP l))))
 (Own.tok ((1:Nat))),
 AV.ptr ((0:Nat)) ((0:Nat)),
 AV.int IntKind.i64 (↑(cntS (numP l)):Int),AV.bool true,
 AV.ptr ((1:Nat)) ((0:Nat)),
 AV.int IntKind.i64 (↑(cntS (numP l)):Int),AV.bool true] ∧
 StIs
 { boxes:=[some [AV.sl ((3:Nat)) (bxsL (allS (numP l))) Own.no],some [AV.sl ((3:Nat)) (bxsL (allS (numP l))) Own.no]],live:=[(l.length,(35:Nat)),((List.take x (List.reverse (numP l))).length,(35:Nat))] }
 { boxes:=[some [AV.sl ((3:Nat)) (bxsL (allS (numP l))) Own.no],some [AV.sl ((3:Nat)) (bxsL (allS (numP l))) Own.no]],live:=[(l.length,(35:Nat)),(l.length,(35:Nat))] } ∧
 True∧True) ∧
 (true = false →
 ∃ (_y:Unit),
 ValsAre
 [AV.int IntKind.i64 turn,
 AV.sl ((11:Nat)) (pksL (seL (numP l))) (Own.tok ((0:Nat))),
 AV.sl ((11:Nat))
 (pksL (seL (List.take x (List.reverse (numP l)))))
 (Own.tok ((1:Nat))),
 AV.ptr ((0:Nat)) ((0:Nat)),
 AV.int IntKind.i64 (↑(cntS (numP l)):Int),AV.bool false,
 AV.ptr ((1:Nat)) ((0:Nat)),
 AV.int IntKind.i64 (↑(cntS (numP l)):Int),AV.bool false]
 [AV.int IntKind.i64 turn,
 AV.sl ((11:Nat)) (pksL (seL (numP l))) (Own.tok ((0:Nat))),
 AV.sl ((11:Nat)) (pksL (seL (List.reverse (numP l))))
 (Own.tok ((1:Nat))),
 AV.ptr ((0:Nat)) ((0:Nat)),
 AV.int IntKind.i64 (↑(cntS (numP l)):Int),AV.bool true,
 AV.ptr ((1:Nat)) ((0:Nat)),
 AV.int IntKind.i64 (↑(cntS (numP l)):Int),AV.bool true] ∧
 StIs
 { boxes:=[some [AV.sl ((3:Nat)) (bxsL (allS (numP l))) Own.no],some [AV.sl ((3:Nat)) (bxsL (allS (numP l))) Own.no]],live:=[(l.length,(35:Nat)),((List.take x (List.reverse (numP l))).length,(35:Nat))] }
 { boxes:=[some [AV.sl ((3:Nat)) (bxsL (allS (numP l))) Own.no],some [AV.sl ((3:Nat)) (bxsL (allS (numP l))) Own.no]],live:=[(l.length,(35:Nat)),(l.length,(35:Nat))] } ∧
 True∧True)) ∧
 (List.drop ((0:Nat)) (List.take turn.toNat (pksL (seL (numP l)))) ≠ [] →
 CallIs
 (tbl
 [((7:Nat),s7),((17:Nat),s17),
 ((18:Nat),fun (args:List AV)=>s18 (List.map wk1 args)),
 ((10:Nat),s10w),((13:Nat),s13),
 ((19:Nat),fun (args:List AV)=>s19 (List.map wk1 args))]
 ((18:Nat))
 [AV.agg [AV.sl ((0:Nat)) [] Own.nil],
 AV.sl ((11:Nat))
 ([] ++
 List.drop ((0:Nat)) (List.take turn.toNat (pksL (seL (numP l)))))
 Own.no])
 (AV.tup
 [AV.agg [AV.sl ((3:Nat)) (bxsL (allS (numP l))) Own.no],
 AV.int IntKind.i64 (↑(cntS (numP l)):Int),AV.bool true])
 [] ∧
 (true = true →
 ∃ (_y:Unit),
 ValsAre
 [AV.int IntKind.i64 turn,
 AV.sl ((11:Nat)) (pksL (seL (numP l))) (Own.tok ((0:Nat))),
 AV.sl ((11:Nat))
 (pksL (seL (List.take x (List.reverse (numP l)))))
 (Own.tok ((1:Nat))),
 AV.ptr ((0:Nat)) ((0:Nat)),
 AV.int IntKind.i64 (↑(cntS (numP l)):Int),AV.bool false,
 AV.ptr ((1:Nat)) ((0:Nat)),
 AV.int IntKind.i64 (↑(cntS (numP l)):Int),AV.bool true]
 [AV.int IntKind.i64 turn,
 AV.sl ((11:Nat)) (pksL (seL (numP l))) (Own.tok ((0:Nat))),
 AV.sl ((11:Nat)) (pksL (seL (List.reverse (numP l))))
 (Own.tok ((1:Nat))),
 AV.ptr ((0:Nat)) ((0:Nat)),
 AV.int IntKind.i64 (↑(cntS (numP l)):Int),AV.bool true,
 AV.ptr ((1:Nat)) ((0:Nat)),
 AV.int IntKind.i64 (↑(cntS (numP l)):Int),AV.bool true] ∧
 StIs
 { boxes:=[some [AV.sl ((3:Nat)) (bxsL (allS (numP l))) Own.no],some [AV.sl ((3:Nat)) (bxsL (allS (numP l))) Own.no]],live:=[(l.length,(35:Nat)),((List.take x (List.reverse (numP l))).length,(35:Nat))] }
 { boxes:=[some [AV.sl ((3:Nat)) (bxsL (allS (numP l))) Own.no],some [AV.sl ((3:Nat)) (bxsL (allS (numP l))) Own.no]],live:=[(l.length,(35:Nat)),(l.length,(35:Nat))] } ∧
 True∧True) ∧
 (true = false →
 ∃ (_y:Unit),
 ValsAre
 [AV.int IntKind.i64 turn,
 AV.sl ((11:Nat)) (pksL (seL (numP l))) (Own.tok ((0:Nat))),
 AV.sl ((11:Nat))
 (pksL (seL (List.take x (List.reverse (numP l)))))
 (Own.tok ((1:Nat))),
 AV.ptr ((0:Nat)) ((0:Nat)),
 AV.int IntKind.i64 (↑(cntS (numP l)):Int),AV.bool false,
 AV.ptr ((1:Nat)) ((0:Nat)),
 AV.int IntKind.i64 (↑(cntS (numP l)):Int),AV.bool false]
 [AV.int IntKind.i64 turn,
 AV.sl ((11:Nat)) (pksL (seL (numP l))) (Own.tok ((0:Nat))),
 AV.sl ((11:Nat)) (pksL (seL (List.reverse (numP l))))
 (Own.tok ((1:Nat))),
 AV.ptr ((0:Nat)) ((0:Nat)),
 AV.int IntKind.i64 (↑(cntS (numP l)):Int),AV.bool true,
 AV.ptr ((1:Nat)) ((0:Nat)),
 AV.int IntKind.i64 (↑(cntS (numP l)):Int),AV.bool true] ∧
 StIs
 { boxes:=[some [AV.sl ((3:Nat)) (bxsL (allS (numP l))) Own.no],some [AV.sl ((3:Nat)) (bxsL (allS (numP l))) Own.no]],live:=[(l.length,(35:Nat)),((List.take x (List.reverse (numP l))).length,(35:Nat))] }
 { boxes:=[some [AV.sl ((3:Nat)) (bxsL (allS (numP l))) Own.no],some [AV.sl ((3:Nat)) (bxsL (allS (numP l))) Own.no]],live:=[(l.length,(35:Nat)),(l.length,(35:Nat))] } ∧
 True∧True)))) ∧
 (List.drop turn.toNat (List.take (pksL (seL (numP l))).length (pksL (seL (numP l)))) ≠ [] →
 (0:Int)≤turn ∧
 ((0:Nat)≤turn.toNat∧turn.toNat≤(pksL (seL (numP l))).length) ∧
 ((11:Nat) = (11:Nat)∨pksL (seL (numP l)) = []) ∧
 ((0:Nat) = (0:Nat)∧turn.toNat = (pksL (seL (numP l))).length →
 ((11:Nat) = (11:Nat) ∨
 [] ++
 List.drop turn.toNat
 (List.take (pksL (seL (numP l))).length (pksL (seL (numP l)))) =
 []) ∧
 (([] ++
 List.drop turn.toNat
 (List.take (pksL (seL (numP l))).length (pksL (seL (numP l))))).length +
 (List.drop ((0:Nat)) (List.take turn.toNat (pksL (seL (numP l))))).length) *
 (137:Nat) ≤
 (70368744177664:Nat) ∧
 (0:Nat) +
 (List.drop turn.toNat
 (List.take (pksL (seL (numP l))).length (pksL (seL (numP l))))).length =
 ([] ++
 List.drop turn.toNat
 (List.take (pksL (seL (numP l))).length (pksL (seL (numP l))))).length ∧
 CallIs
 (tbl
 [((7:Nat),s7),((17:Nat),s17),
 ((18:Nat),fun (args:List AV)=>s18 (List.map wk1 args)),
 ((10:Nat),s10w),((13:Nat),s13),
 ((19:Nat),fun (args:List AV)=>s19 (List.map wk1 args))]
 ((18:Nat))
 [AV.agg [AV.sl ((0:Nat)) [] Own.nil],
 AV.sl ((11:Nat))
 ([] ++
 List.drop turn.toNat
 (List.take (pksL (seL (numP l))).length (pksL (seL (numP l)))) ++
 List.drop ((0:Nat)) (List.take turn.toNat (pksL (seL (numP l)))))
 Own.no])
 (AV.tup
 [AV.agg [AV.sl ((3:Nat)) (bxsL (allS (numP l))) Own.no],
 AV.int IntKind.i64 (↑(cntS (numP l)):Int),AV.bool true])
 [] ∧
 (true = true →
 ∃ (_y:Unit),
 ValsAre
 [AV.int IntKind.i64 turn,
 AV.sl ((11:Nat)) (pksL (seL (numP l))) (Own.tok ((0:Nat))),
 AV.sl ((11:Nat))
 (pksL (seL (List.take x (List.reverse (numP l)))))
 (Own.tok ((1:Nat))),
 AV.ptr ((0:Nat)) ((0:Nat)),
 AV.int IntKind.i64 (↑(cntS (numP l)):Int),AV.bool false,
 AV.ptr ((1:Nat)) ((0:Nat)),
 AV.int IntKind.i64 (↑(cntS (numP l)):Int),AV.bool true]
 [AV.int IntKind.i64 turn,
 AV.sl ((11:Nat)) (pksL (seL (numP l))) (Own.tok ((0:Nat))),
 AV.sl ((11:Nat)) (pksL (seL (List.reverse (numP l))))
 (Own.tok ((1:Nat))),
 AV.ptr ((0:Nat)) ((0:Nat)),
 AV.int IntKind.i64 (↑(cntS (numP l)):Int),AV.bool true,
 AV.ptr ((1:Nat)) ((0:Nat)),
 AV.int IntKind.i64 (↑(cntS (numP l)):Int),AV.bool true] ∧
 StIs
 { boxes:=[some [AV.sl ((3:Nat)) (bxsL (allS (numP l))) Own.no],some [AV.sl ((3:Nat)) (bxsL (allS (numP l))) Own.no]],live:=[(l.length,(35:Nat)),((List.take x (List.reverse (numP l))).length,(35:Nat))] }
 { boxes:=[some [AV.sl ((3:Nat)) (bxsL (allS (numP l))) Own.no],some [AV.sl ((3:Nat)) (bxsL (allS (numP l))) Own.no]],live:=[(l.length,(35:Nat)),(l.length,(35:Nat))] } ∧
 True∧True) ∧
 (true = false →
 ∃ (_y:Unit),
 ValsAre
 [AV.int IntKind.i64 turn,
 AV.sl ((11:Nat)) (pksL (seL (numP l))) (Own.tok ((0:Nat))),
 AV.sl ((11:Nat))
 (pksL (seL (List.take x (List.reverse (numP l)))))
 (Own.tok ((1:Nat))),
 AV.ptr ((0:Nat)) ((0:Nat)),
 AV.int IntKind.i64 (↑(cntS (numP l)):Int),AV.bool false,
 AV.ptr ((1:Nat)) ((0:Nat)),
 AV.int IntKind.i64 (↑(cntS (numP l)):Int),AV.bool false]
 [AV.int IntKind.i64 turn,
 AV.sl ((11:Nat)) (pksL (seL (numP l))) (Own.tok ((0:Nat))),
 AV.sl ((11:Nat)) (pksL (seL (List.reverse (numP l))))
 (Own.tok ((1:Nat))),
 AV.ptr ((0:Nat)) ((0:Nat)),
 AV.int IntKind.i64 (↑(cntS (numP l)):Int),AV.bool true,
 AV.ptr ((1:Nat)) ((0:Nat)),
 AV.int IntKind.i64 (↑(cntS (numP l)):Int),AV.bool true] ∧
 StIs
 { boxes:=[some [AV.sl ((3:Nat)) (bxsL (allS (numP l))) Own.no],some [AV.sl ((3:Nat)) (bxsL (allS (numP l))) Own.no]],live:=[(l.length,(35:Nat)),((List.take x (List.reverse (numP l))).length,(35:Nat))] }
 { boxes:=[some [AV.sl ((3:Nat)) (bxsL (allS (numP l))) Own.no],some [AV.sl ((3:Nat)) (bxsL (allS (numP l))) Own.no]],live:=[(l.length,(35:Nat)),(l.length,(35:Nat))] } ∧
 True∧True)) ∧
 (¬((0:Nat) = (0:Nat)∧turn.toNat = (pksL (seL (numP l))).length) →
 ((11:Nat) = (11:Nat) ∨
 [] ++
 List.drop turn.toNat
 (List.take (pksL (seL (numP l))).length (pksL (seL (numP l)))) =
 []) ∧
 (([] ++
 List.drop turn.toNat
 (List.take (pksL (seL (numP l))).length (pksL (seL (numP l))))).length +
 (List.drop ((0:Nat)) (List.take turn.toNat (pksL (seL (numP l))))).length) *
 (137:Nat) ≤
 (70368744177664:Nat) ∧
 (0:Nat) +
 (List.drop turn.toNat
 (List.take (pksL (seL (numP l))).length (pksL (seL (numP l))))).length =
 ([] ++
 List.drop turn.toNat
 (List.take (pksL (seL (numP l))).length (pksL (seL (numP l))))).length ∧
 CallIs
 (tbl
 [((7:Nat),s7),((17:Nat),s17),
 ((18:Nat),fun (args:List AV)=>s18 (List.map wk1 args)),
 ((10:Nat),s10w),((13:Nat),s13),
 ((19:Nat),fun (args:List AV)=>s19 (List.map wk1 args))]
 ((18:Nat))
 [AV.agg [AV.sl ((0:Nat)) [] Own.nil],
 AV.sl ((11:Nat))
 ([] ++
 List.drop turn.toNat
 (List.take (pksL (seL (numP l))).length (pksL (seL (numP l)))) ++
 List.drop ((0:Nat)) (List.take turn.toNat (pksL (seL (numP l)))))
 Own.no])
 (AV.tup
 [AV.agg [AV.sl ((3:Nat)) (bxsL (allS (numP l))) Own.no],
 AV.int IntKind.i64 (↑(cntS (numP l)):Int),AV.bool true])
 [] ∧
 (true = true →
 ∃ (_y:Unit),
 ValsAre
 [AV.int IntKind.i64 turn,
 AV.sl ((11:Nat)) (pksL (seL (numP l))) (Own.tok ((0:Nat))),
 AV.sl ((11:Nat))
 (pksL (seL (List.take x (List.reverse (numP l)))))
 (Own.tok ((1:Nat))),
 AV.ptr ((0:Nat)) ((0:Nat)),
 AV.int IntKind.i64 (↑(cntS (numP l)):Int),AV.bool false,
 AV.ptr ((1:Nat)) ((0:Nat)),
 AV.int IntKind.i64 (↑(cntS (numP l)):Int),AV.bool true]
 [AV.int IntKind.i64 turn,
 AV.sl ((11:Nat)) (pksL (seL (numP l))) (Own.tok ((0:Nat))),
 AV.sl ((11:Nat)) (pksL (seL (List.reverse (numP l))))
 (Own.tok ((1:Nat))),
 AV.ptr ((0:Nat)) ((0:Nat)),
 AV.int IntKind.i64 (↑(cntS (numP l)):Int),AV.bool true,
 AV.ptr ((1:Nat)) ((0:Nat)),
 AV.int IntKind.i64 (↑(cntS (numP l)):Int),AV.bool true] ∧
 StIs
 { boxes:=[some [AV.sl ((3:Nat)) (bxsL (allS (numP l))) Own.no],some [AV.sl ((3:Nat)) (bxsL (allS (numP l))) Own.no]],live:=[(l.length,(35:Nat)),((List.take x (List.reverse (numP l))).length,(35:Nat))] }
 { boxes:=[some [AV.sl ((3:Nat)) (bxsL (allS (numP l))) Own.no],some [AV.sl ((3:Nat)) (bxsL (allS (numP l))) Own.no]],live:=[(l.length,(35:Nat)),(l.length,(35:Nat))] } ∧
 True∧True) ∧
 (true = false →
 ∃ (_y:Unit),
 ValsAre
 [AV.int IntKind.i64 turn,
 AV.sl ((11:Nat)) (pksL (seL (numP l))) (Own.tok ((0:Nat))),
 AV.sl ((11:Nat))
 (pksL (seL (List.take x (List.reverse (numP l)))))
 (Own.tok ((1:Nat))),
 AV.ptr ((0:Nat)) ((0:Nat)),
 AV.int IntKind.i64 (↑(cntS (numP l)):Int),AV.bool false,
 AV.ptr ((1:Nat)) ((0:Nat)),
 AV.int IntKind.i64 (↑(cntS (numP l)):Int),AV.bool false]
 [AV.int IntKind.i64 turn,
 AV.sl ((11:Nat)) (pksL (seL (numP l))) (Own.tok ((0:Nat))),
 AV.sl ((11:Nat)) (pksL (seL (List.reverse (numP l))))
 (Own.tok ((1:Nat))),
 AV.ptr ((0:Nat)) ((0:Nat)),
 AV.int IntKind.i64 (↑(cntS (numP l)):Int),AV.bool true,
 AV.ptr ((1:Nat)) ((0:Nat)),
 AV.int IntKind.i64 (↑(cntS (numP l)):Int),AV.bool true] ∧
 StIs
 { boxes:=[some [AV.sl ((3:Nat)) (bxsL (allS (numP l))) Own.no],some [AV.sl ((3:Nat)) (bxsL (allS (numP l))) Own.no]],live:=[(l.length,(35:Nat)),((List.take x (List.reverse (numP l))).length,(35:Nat))] }
 { boxes:=[some [AV.sl ((3:Nat)) (bxsL (allS (numP l))) Own.no],some [AV.sl ((3:Nat)) (bxsL (allS (numP l))) Own.no]],live:=[(l.length,(35:Nat)),(l.length,(35:Nat))] } ∧
 True∧True)))) ∧
 (¬(turn.toNat = (0:Nat)∧(pksL (seL (numP l))).length = (pksL (seL (numP l))).length) →
 ((11:Nat) = (11:Nat)∨([]:List AV) = []) ∧
 ((0:Nat) +
 (List.drop turn.toNat (List.take (pksL (seL (numP l))).length (pksL (seL (numP l))))).length) *
 (137:Nat) ≤
 (70368744177664:Nat) ∧
 (List.drop turn.toNat (List.take (pksL (seL (numP l))).length (pksL (seL (numP l)))) = [] →
 (0:Int)≤turn ∧
 ((0:Nat)≤turn.toNat∧turn.toNat≤(pksL (seL (numP l))).length) ∧
 ((11:Nat) = (11:Nat)∨pksL (seL (numP l)) = []) ∧
 ((0:Nat) = (0:Nat)∧turn.toNat = (pksL (seL (numP l))).length →
 ((11:Nat) = (11:Nat)∨([]:List AV) = []) ∧
 ((0:Nat) +
 (List.drop ((0:Nat)) (List.take turn.toNat (pksL (seL (numP l))))).length) *
 (137:Nat) ≤
 (70368744177664:Nat) ∧
 (List.drop ((0:Nat)) (List.take turn.toNat (pksL (seL (numP l)))) = [] →
 CallIs
 (some
 (AV.tup
 [AV.agg [AV.sl ((3:Nat)) [] Own.no],AV.int IntKind.i64 (0:Int),
 AV.bool true],
 []))
 (AV.tup
 [AV.agg [AV.sl ((3:Nat)) (bxsL (allS (numP l))) Own.no],
 AV.int IntKind.i64 (↑(cntS (numP l)):Int),AV.bool true])
 [] ∧
 (true = true →
 ∃ (_y:Unit),
 ValsAre
 [AV.int IntKind.i64 turn,
 AV.sl ((11:Nat)) (pksL (seL (numP l))) (Own.tok ((0:Nat))),
 AV.sl ((11:Nat))
 (pksL (seL (List.take x (List.reverse (numP l)))))
 (Own.tok ((1:Nat))),
 AV.ptr ((0:Nat)) ((0:Nat)),
 AV.int IntKind.i64 (↑(cntS (numP l)):Int),AV.bool false,
 AV.ptr ((1:Nat)) ((0:Nat)),
 AV.int IntKind.i64 (↑(cntS (numP l)):Int),AV.bool true]
 [AV.int IntKind.i64 turn,
 AV.sl ((11:Nat)) (pksL (seL (numP l))) (Own.tok ((0:Nat))),
 AV.sl ((11:Nat)) (pksL (seL (List.reverse (numP l))))
 (Own.tok ((1:Nat))),
 AV.ptr ((0:Nat)) ((0:Nat)),
 AV.int IntKind.i64 (↑(cntS (numP l)):Int),AV.bool true,
 AV.ptr ((1:Nat)) ((0:Nat)),
 AV.int IntKind.i64 (↑(cntS (numP l)):Int),AV.bool true] ∧
 StIs
 { boxes:=[some [AV.sl ((3:Nat)) (bxsL (allS (numP l))) Own.no],some [AV.sl ((3:Nat)) (bxsL (allS (numP l))) Own.no]],live:=[(l.length,(35:Nat)),((List.take x (List.reverse (numP l))).length,(35:Nat))] }
 { boxes:=[some [AV.sl ((3:Nat)) (bxsL (allS (numP l))) Own.no],some [AV.sl ((3:Nat)) (bxsL (allS (numP l))) Own.no]],live:=[(l.length,(35:Nat)),(l.length,(35:Nat))] } ∧
 True∧True) ∧
 (true = false →
 ∃ (_y:Unit),
 ValsAre
 [AV.int IntKind.i64 turn,
 AV.sl ((11:Nat)) (pksL (seL (numP l))) (Own.tok ((0:Nat))),
 AV.sl ((11:Nat))
 (pksL (seL (List.take x (List.reverse (numP l)))))
 (Own.tok ((1:Nat))),
 AV.ptr ((0:Nat)) ((0:Nat)),
 AV.int IntKind.i64 (↑(cntS (numP l)):Int),AV.bool false,
 AV.ptr ((1:Nat)) ((0:Nat)),
 AV.int IntKind.i64 (↑(cntS (numP l)):Int),AV.bool false]
 [AV.int IntKind.i64 turn,
 AV.sl ((11:Nat)) (pksL (seL (numP l))) (Own.tok ((0:Nat))),
 AV.sl ((11:Nat)) (pksL (seL (List.reverse (numP l))))
 (Own.tok ((1:Nat))),
 AV.ptr ((0:Nat)) ((0:Nat)),
 AV.int IntKind.i64 (↑(cntS (numP l)):Int),AV.bool true,
 AV.ptr ((1:Nat)) ((0:Nat)),
 AV.int IntKind.i64 (↑(cntS (numP l)):Int),AV.bool true] ∧
 StIs
 { boxes:=[some [AV.sl ((3:Nat)) (bxsL (allS (numP l))) Own.no],some [AV.sl ((3:Nat)) (bxsL (allS (numP l))) Own.no]],live:=[(l.length,(35:Nat)),((List.take x (List.reverse (numP l))).length,(35:Nat))] }
 { boxes:=[some [AV.sl ((3:Nat)) (bxsL (allS (numP l))) Own.no],some [AV.sl ((3:Nat)) (bxsL (allS (numP l))) Own.no]],live:=[(l.length,(35:Nat)),(l.length,(35:Nat))] } ∧
 True∧True)) ∧
 (List.drop ((0:Nat)) (List.take turn.toNat (pksL (seL (numP l)))) ≠ [] →
 CallIs
 (tbl
 [((7:Nat),s7),((17:Nat),s17),
 ((18:Nat),fun (args:List AV)=>s18 (List.map wk1 args)),
 ((10:Nat),s10w),((13:Nat),s13),
 ((19:Nat),fun (args:List AV)=>s19 (List.map wk1 args))]
 ((18:Nat))
 [AV.agg [AV.sl ((0:Nat)) [] Own.nil],
 AV.sl ((11:Nat))
 ([] ++
 List.drop ((0:Nat)) (List.take turn.toNat (pksL (seL (numP l)))))
 Own.no])
 (AV.tup
 [AV.agg [AV.sl ((3:Nat)) (bxsL (allS (numP l))) Own.no],
 AV.int IntKind.i64 (↑(cntS (numP l)):Int),AV.bool true])
 [] ∧
 (true = true →
 ∃ (_y:Unit),
 ValsAre
 [AV.int IntKind.i64 turn,
 AV.sl ((11:Nat)) (pksL (seL (numP l))) (Own.tok ((0:Nat))),
 AV.sl ((11:Nat))
 (pksL (seL (List.take x (List.reverse (numP l)))))
 (Own.tok ((1:Nat))),
 AV.ptr ((0:Nat)) ((0:Nat)),
 AV.int IntKind.i64 (↑(cntS (numP l)):Int),AV.bool false,
 AV.ptr ((1:Nat)) ((0:Nat)),
 AV.int IntKind.i64 (↑(cntS (numP l)):Int),AV.bool true]
 [AV.int IntKind.i64 turn,
 AV.sl ((11:Nat)) (pksL (seL (numP l))) (Own.tok ((0:Nat))),
 AV.sl ((11:Nat)) (pksL (seL (List.reverse (numP l))))
 (Own.tok ((1:Nat))),
 AV.ptr ((0:Nat)) ((0:Nat)),
 AV.int IntKind.i64 (↑(cntS (numP l)):Int),AV.bool true,
 AV.ptr ((1:Nat)) ((0:Nat)),
 AV.int IntKind.i64 (↑(cntS (numP l)):Int),AV.bool true] ∧
 StIs
 { boxes:=[some [AV.sl ((3:Nat)) (bxsL (allS (numP l))) Own.no],some [AV.sl ((3:Nat)) (bxsL (allS (numP l))) Own.no]],live:=[(l.length,(35:Nat)),((List.take x (List.reverse (numP l))).length,(35:Nat))] }
 { boxes:=[some [AV.sl ((3:Nat)) (bxsL (allS (numP l))) Own.no],some [AV.sl ((3:Nat)) (bxsL (allS (numP l))) Own.no]],live:=[(l.length,(35:Nat)),(l.length,(35:Nat))] } ∧
 True∧True) ∧
 (true = false →
 ∃ (_y:Unit),
 ValsAre
 [AV.int IntKind.i64 turn,
 AV.sl ((11:Nat)) (pksL (seL (numP l))) (Own.tok ((0:Nat))),
 AV.sl ((11:Nat))
 (pksL (seL (List.take x (List.reverse (numP l)))))
 (Own.tok ((1:Nat))),
 AV.ptr ((0:Nat)) ((0:Nat)),
 AV.int IntKind.i64 (↑(cntS (numP l)):Int),AV.bool false,
 AV.ptr ((1:Nat)) ((0:Nat)),
 AV.int IntKind.i64 (↑(cntS (numP l)):Int),AV.bool false]
 [AV.int IntKind.i64 turn,
 AV.sl ((11:Nat)) (pksL (seL (numP l))) (Own.tok ((0:Nat))),
 AV.sl ((11:Nat)) (pksL (seL (List.reverse (numP l))))
 (Own.tok ((1:Nat))),
 AV.ptr ((0:Nat)) ((0:Nat)),
 AV.int IntKind.i64 (↑(cntS (numP l)):Int),AV.bool true,
 AV.ptr ((1:Nat)) ((0:Nat)),
 AV.int IntKind.i64 (↑(cntS (numP l)):Int),AV.bool true] ∧
 StIs
 { boxes:=[some [AV.sl ((3:Nat)) (bxsL (allS (numP l))) Own.no],some [AV.sl ((3:Nat)) (bxsL (allS (numP l))) Own.no]],live:=[(l.length,(35:Nat)),((List.take x (List.reverse (numP l))).length,(35:Nat))] }
 { boxes:=[some [AV.sl ((3:Nat)) (bxsL (allS (numP l))) Own.no],some [AV.sl ((3:Nat)) (bxsL (allS (numP l))) Own.no]],live:=[(l.length,(35:Nat)),(l.length,(35:Nat))] } ∧
 True∧True))) ∧
 (¬((0:Nat) = (0:Nat)∧turn.toNat = (pksL (seL (numP l))).length) →
 ((11:Nat) = (11:Nat)∨([]:List AV) = []) ∧
 ((0:Nat) +
 (List.drop ((0:Nat)) (List.take turn.toNat (pksL (seL (numP l))))).length) *
 (137:Nat) ≤
 (70368744177664:Nat) ∧
 (List.drop ((0:Nat)) (List.take turn.toNat (pksL (seL (numP l)))) = [] →
 CallIs
 (some
 (AV.tup
 [AV.agg [AV.sl ((3:Nat)) [] Own.no],AV.int IntKind.i64 (0:Int),
 AV.bool true],
 []))
 (AV.tup
 [AV.agg [AV.sl ((3:Nat)) (bxsL (allS (numP l))) Own.no],
 AV.int IntKind.i64 (↑(cntS (numP l)):Int),AV.bool true])
 [] ∧
 (true = true →
 ∃ (_y:Unit),
 ValsAre
 [AV.int IntKind.i64 turn,
 AV.sl ((11:Nat)) (pksL (seL (numP l))) (Own.tok ((0:Nat))),
 AV.sl ((11:Nat))
 (pksL (seL (List.take x (List.reverse (numP l)))))
 (Own.tok ((1:Nat))),
 AV.ptr ((0:Nat)) ((0:Nat)),
 AV.int IntKind.i64 (↑(cntS (numP l)):Int),AV.bool false,
 AV.ptr ((1:Nat)) ((0:Nat)),
 AV.int IntKind.i64 (↑(cntS (numP l)):Int),AV.bool true]
 [AV.int IntKind.i64 turn,
 AV.sl ((11:Nat)) (pksL (seL (numP l))) (Own.tok ((0:Nat))),
 AV.sl ((11:Nat)) (pksL (seL (List.reverse (numP l))))
 (Own.tok ((1:Nat))),
 AV.ptr ((0:Nat)) ((0:Nat)),
 AV.int IntKind.i64 (↑(cntS (numP l)):Int),AV.bool true,
 AV.ptr ((1:Nat)) ((0:Nat)),
 AV.int IntKind.i64 (↑(cntS (numP l)):Int),AV.bool true] ∧
 StIs
 { boxes:=[some [AV.sl ((3:Nat)) (bxsL (allS (numP l))) Own.no],some [AV.sl ((3:Nat)) (bxsL (allS (numP l))) Own.no]],live:=[(l.length,(35:Nat)),((List.take x (List.reverse (numP l))).length,(35:Nat))] }
 { boxes:=[some [AV.sl ((3:Nat)) (bxsL (allS (numP l))) Own.no],some [AV.sl ((3:Nat)) (bxsL (allS (numP l))) Own.no]],live:=[(l.length,(35:Nat)),(l.length,(35:Nat))] } ∧
 True∧True) ∧
 (true = false →
 ∃ (_y:Unit),
 ValsAre
 [AV.int IntKind.i64 turn,
 AV.sl ((11:Nat)) (pksL (seL (numP l))) (Own.tok ((0:Nat))),
 AV.sl ((11:Nat))
 (pksL (seL (List.take x (List.reverse (numP l)))))
 (Own.tok ((1:Nat))),
 AV.ptr ((0:Nat)) ((0:Nat)),
 AV.int IntKind.i64 (↑(cntS (numP l)):Int),AV.bool false,
 AV.ptr ((1:Nat)) ((0:Nat)),
 AV.int IntKind.i64 (↑(cntS (numP l)):Int),AV.bool false]
 [AV.int IntKind.i64 turn,
 AV.sl ((11:Nat)) (pksL (seL (numP l))) (Own.tok ((0:Nat))),
 AV.sl ((11:Nat)) (pksL (seL (List.reverse (numP l))))
 (Own.tok ((1:Nat))),
 AV.ptr ((0:Nat)) ((0:Nat)),
 AV.int IntKind.i64 (↑(cntS (numP l)):Int),AV.bool true,
 AV.ptr ((1:Nat)) ((0:Nat)),
 AV.int IntKind.i64 (↑(cntS (numP l)):Int),AV.bool true] ∧
 StIs
 { boxes:=[some [AV.sl ((3:Nat)) (bxsL (allS (numP l))) Own.no],some [AV.sl ((3:Nat)) (bxsL (allS (numP l))) Own.no]],live:=[(l.length,(35:Nat)),((List.take x (List.reverse (numP l))).length,(35:Nat))] }
 { boxes:=[some [AV.sl ((3:Nat)) (bxsL (allS (numP l))) Own.no],some [AV.sl ((3:Nat)) (bxsL (allS (numP l))) Own.no]],live:=[(l.length,(35:Nat)),(l.length,(35:Nat))] } ∧
 True∧True)) ∧
 (List.drop ((0:Nat)) (List.take turn.toNat (pksL (seL (numP l)))) ≠ [] →
 CallIs
 (tbl
 [((7:Nat),s7),((17:Nat),s17),
 ((18:Nat),fun (args:List AV)=>s18 (List.map wk1 args)),
 ((10:Nat),s10w),((13:Nat),s13),
 ((19:Nat),fun (args:List AV)=>s19 (List.map wk1 args))]
 ((18:Nat))
 [AV.agg [AV.sl ((0:Nat)) [] Own.nil],
 AV.sl ((11:Nat))
 ([] ++
 List.drop ((0:Nat)) (List.take turn.toNat (pksL (seL (numP l)))))
 Own.no])
 (AV.tup
 [AV.agg [AV.sl ((3:Nat)) (bxsL (allS (numP l))) Own.no],
 AV.int IntKind.i64 (↑(cntS (numP l)):Int),AV.bool true])
 [] ∧
 (true = true →
 ∃ (_y:Unit),
 ValsAre
 [AV.int IntKind.i64 turn,
 AV.sl ((11:Nat)) (pksL (seL (numP l))) (Own.tok ((0:Nat))),
 AV.sl ((11:Nat))
 (pksL (seL (List.take x (List.reverse (numP l)))))
 (Own.tok ((1:Nat))),
 AV.ptr ((0:Nat)) ((0:Nat)),
 AV.int IntKind.i64 (↑(cntS (numP l)):Int),AV.bool false,
 AV.ptr ((1:Nat)) ((0:Nat)),
 AV.int IntKind.i64 (↑(cntS (numP l)):Int),AV.bool true]
 [AV.int IntKind.i64 turn,
 AV.sl ((11:Nat)) (pksL (seL (numP l))) (Own.tok ((0:Nat))),
 AV.sl ((11:Nat)) (pksL (seL (List.reverse (numP l))))
 (Own.tok ((1:Nat))),
 AV.ptr ((0:Nat)) ((0:Nat)),
 AV.int IntKind.i64 (↑(cntS (numP l)):Int),AV.bool true,
 AV.ptr ((1:Nat)) ((0:Nat)),
 AV.int IntKind.i64 (↑(cntS (numP l)):Int),AV.bool true] ∧
 StIs
 { boxes:=[some [AV.sl ((3:Nat)) (bxsL (allS (numP l))) Own.no],some [AV.sl ((3:Nat)) (bxsL (allS (numP l))) Own.no]],live:=[(l.length,(35:Nat)),((List.take x (List.reverse (numP l))).length,(35:Nat))] }
 { boxes:=[some [AV.sl ((3:Nat)) (bxsL (allS (numP l))) Own.no],some [AV.sl ((3:Nat)) (bxsL (allS (numP l))) Own.no]],live:=[(l.length,(35:Nat)),(l.length,(35:Nat))] } ∧
 True∧True) ∧
 (true = false →
 ∃ (_y:Unit),
 ValsAre
 [AV.int IntKind.i64 turn,
 AV.sl ((11:Nat)) (pksL (seL (numP l))) (Own.tok ((0:Nat))),
 AV.sl ((11:Nat))
 (pksL (seL (List.take x (List.reverse (numP l)))))
 (Own.tok ((1:Nat))),
 AV.ptr ((0:Nat)) ((0:Nat)),
 AV.int IntKind.i64 (↑(cntS (numP l)):Int),AV.bool false,
 AV.ptr ((1:Nat)) ((0:Nat)),
 AV.int IntKind.i64 (↑(cntS (numP l)):Int),AV.bool false]
 [AV.int IntKind.i64 turn,
 AV.sl ((11:Nat)) (pksL (seL (numP l))) (Own.tok ((0:Nat))),
 AV.sl ((11:Nat)) (pksL (seL (List.reverse (numP l))))
 (Own.tok ((1:Nat))),
 AV.ptr ((0:Nat)) ((0:Nat)),
 AV.int IntKind.i64 (↑(cntS (numP l)):Int),AV.bool true,
 AV.ptr ((1:Nat)) ((0:Nat)),
 AV.int IntKind.i64 (↑(cntS (numP l)):Int),AV.bool true] ∧
 StIs
 { boxes:=[some [AV.sl ((3:Nat)) (bxsL (allS (numP l))) Own.no],some [AV.sl ((3:Nat)) (bxsL (allS (numP l))) Own.no]],live:=[(l.length,(35:Nat)),((List.take x (List.reverse (numP l))).length,(35:Nat))] }
 { boxes:=[some [AV.sl ((3:Nat)) (bxsL (allS (numP l))) Own.no],some [AV.sl ((3:Nat)) (bxsL (allS (numP l))) Own.no]],live:=[(l.length,(35:Nat)),(l.length,(35:Nat))] } ∧
 True∧True)))) ∧
 (List.drop turn.toNat (List.take (pksL (seL (numP l))).length (pksL (seL (numP l)))) ≠ [] →
 (0:Int)≤turn ∧
 ((0:Nat)≤turn.toNat∧turn.toNat≤(pksL (seL (numP l))).length) ∧
 ((11:Nat) = (11:Nat)∨pksL (seL (numP l)) = []) ∧
 ((0:Nat) = (0:Nat)∧turn.toNat = (pksL (seL (numP l))).length →
 ((11:Nat) = (11:Nat) ∨
 [] ++
 List.drop turn.toNat
 (List.take (pksL (seL (numP l))).length (pksL (seL (numP l)))) =
 []) ∧
 (([] ++
 List.drop turn.toNat
 (List.take (pksL (seL (numP l))).length (pksL (seL (numP l))))).length +
 (List.drop ((0:Nat)) (List.take turn.toNat (pksL (seL (numP l))))).length) *
 (137:Nat) ≤
 (70368744177664:Nat) ∧
 (0:Nat) +
 (List.drop turn.toNat
 (List.take (pksL (seL (numP l))).length (pksL (seL (numP l))))).length =
 ([] ++
 List.drop turn.toNat
 (List.take (pksL (seL (numP l))).length (pksL (seL (numP l))))).length ∧
 CallIs
 (tbl
 [((7:Nat),s7),((17:Nat),s17),
 ((18:Nat),fun (args:List AV)=>s18 (List.map wk1 args)),
 ((10:Nat),s10w),((13:Nat),s13),
 ((19:Nat),fun (args:List AV)=>s19 (List.map wk1 args))]
 ((18:Nat))
 [AV.agg [AV.sl ((0:Nat)) [] Own.nil],
 AV.sl ((11:Nat))
 ([] ++
 List.drop turn.toNat
 (List.take (pksL (seL (numP l))).length (pksL (seL (numP l)))) ++
 List.drop ((0:Nat)) (List.take turn.toNat (pksL (seL (numP l)))))
 Own.no])
 (AV.tup
 [AV.agg [AV.sl ((3:Nat)) (bxsL (allS (numP l))) Own.no],
 AV.int IntKind.i64 (↑(cntS (numP l)):Int),AV.bool true])
 [] ∧
 (true = true →
 ∃ (_y:Unit),
 ValsAre
 [AV.int IntKind.i64 turn,
 AV.sl ((11:Nat)) (pksL (seL (numP l))) (Own.tok ((0:Nat))),
 AV.sl ((11:Nat))
 (pksL (seL (List.take x (List.reverse (numP l)))))
 (Own.tok ((1:Nat))),
 AV.ptr ((0:Nat)) ((0:Nat)),
 AV.int IntKind.i64 (↑(cntS (numP l)):Int),AV.bool false,
 AV.ptr ((1:Nat)) ((0:Nat)),
 AV.int IntKind.i64 (↑(cntS (numP l)):Int),AV.bool true]
 [AV.int IntKind.i64 turn,
 AV.sl ((11:Nat)) (pksL (seL (numP l))) (Own.tok ((0:Nat))),
 AV.sl ((11:Nat)) (pksL (seL (List.reverse (numP l))))
 (Own.tok ((1:Nat))),
 AV.ptr ((0:Nat)) ((0:Nat)),
 AV.int IntKind.i64 (↑(cntS (numP l)):Int),AV.bool true,
 AV.ptr ((1:Nat)) ((0:Nat)),
 AV.int IntKind.i64 (↑(cntS (numP l)):Int),AV.bool true] ∧
 StIs
 { boxes:=[some [AV.sl ((3:Nat)) (bxsL (allS (numP l))) Own.no],some [AV.sl ((3:Nat)) (bxsL (allS (numP l))) Own.no]],live:=[(l.length,(35:Nat)),((List.take x (List.reverse (numP l))).length,(35:Nat))] }
 { boxes:=[some [AV.sl ((3:Nat)) (bxsL (allS (numP l))) Own.no],some [AV.sl ((3:Nat)) (bxsL (allS (numP l))) Own.no]],live:=[(l.length,(35:Nat)),(l.length,(35:Nat))] } ∧
 True∧True) ∧
 (true = false →
 ∃ (_y:Unit),
 ValsAre
 [AV.int IntKind.i64 turn,
 AV.sl ((11:Nat)) (pksL (seL (numP l))) (Own.tok ((0:Nat))),
 AV.sl ((11:Nat))
 (pksL (seL (List.take x (List.reverse (numP l)))))
 (Own.tok ((1:Nat))),
 AV.ptr ((0:Nat)) ((0:Nat)),
 AV.int IntKind.i64 (↑(cntS (numP l)):Int),AV.bool false,
 AV.ptr ((1:Nat)) ((0:Nat)),
 AV.int IntKind.i64 (↑(cntS (numP l)):Int),AV.bool false]
 [AV.int IntKind.i64 turn,
 AV.sl ((11:Nat)) (pksL (seL (numP l))) (Own.tok ((0:Nat))),
 AV.sl ((11:Nat)) (pksL (seL (List.reverse (numP l))))
 (Own.tok ((1:Nat))),
 AV.ptr ((0:Nat)) ((0:Nat)),
 AV.int IntKind.i64 (↑(cntS (numP l)):Int),AV.bool true,
 AV.ptr ((1:Nat)) ((0:Nat)),
 AV.int IntKind.i64 (↑(cntS (numP l)):Int),AV.bool true] ∧
 StIs
 { boxes:=[some [AV.sl ((3:Nat)) (bxsL (allS (numP l))) Own.no],some [AV.sl ((3:Nat)) (bxsL (allS (numP l))) Own.no]],live:=[(l.length,(35:Nat)),((List.take x (List.reverse (numP l))).length,(35:Nat))] }
 { boxes:=[some [AV.sl ((3:Nat)) (bxsL (allS (numP l))) Own.no],some [AV.sl ((3:Nat)) (bxsL (allS (numP l))) Own.no]],live:=[(l.length,(35:Nat)),(l.length,(35:Nat))] } ∧
 True∧True)) ∧
 (¬((0:Nat) = (0:Nat)∧turn.toNat = (pksL (seL (numP l))).length) →
 ((11:Nat) = (11:Nat) ∨
 [] ++
 List.drop turn.toNat
 (List.take (pksL (seL (numP l))).length (pksL (seL (numP l)))) =
 []) ∧
 (([] ++
 List.drop turn.toNat
 (List.take (pksL (seL (numP l))).length (pksL (seL (numP l))))).length +
 (List.drop ((0:Nat)) (List.take turn.toNat (pksL (seL (numP l))))).length) *
 (137:Nat) ≤
 (70368744177664:Nat) ∧
 (0:Nat) +
 (List.drop turn.toNat
 (List.take (pksL (seL (numP l))).length (pksL (seL (numP l))))).length =
 ([] ++
 List.drop turn.toNat
 (List.take (pksL (seL (numP l))).length (pksL (seL (numP l))))).length ∧
 CallIs
 (tbl
 [((7:Nat),s7),((17:Nat),s17),
 ((18:Nat),fun (args:List AV)=>s18 (List.map wk1 args)),
 ((10:Nat),s10w),((13:Nat),s13),
 ((19:Nat),fun (args:List AV)=>s19 (List.map wk1 args))]
 ((18:Nat))
 [AV.agg [AV.sl ((0:Nat)) [] Own.nil],
 AV.sl ((11:Nat))
 ([] ++
 List.drop turn.toNat
 (List.take (pksL (seL (numP l))).length (pksL (seL (numP l)))) ++
 List.drop ((0:Nat)) (List.take turn.toNat (pksL (seL (numP l)))))
 Own.no])
 (AV.tup
 [AV.agg [AV.sl ((3:Nat)) (bxsL (allS (numP l))) Own.no],
 AV.int IntKind.i64 (↑(cntS (numP l)):Int),AV.bool true])
 [] ∧
 (true = true →
 ∃ (_y:Unit),
 ValsAre
 [AV.int IntKind.i64 turn,
 AV.sl ((11:Nat)) (pksL (seL (numP l))) (Own.tok ((0:Nat))),
 AV.sl ((11:Nat))
 (pksL (seL (List.take x (List.reverse (numP l)))))
 (Own.tok ((1:Nat))),
 AV.ptr ((0:Nat)) ((0:Nat)),
 AV.int IntKind.i64 (↑(cntS (numP l)):Int),AV.bool false,
 AV.ptr ((1:Nat)) ((0:Nat)),
 AV.int IntKind.i64 (↑(cntS (numP l)):Int),AV.bool true]
 [AV.int IntKind.i64 turn,
 AV.sl ((11:Nat)) (pksL (seL (numP l))) (Own.tok ((0:Nat))),
 AV.sl ((11:Nat)) (pksL (seL (List.reverse (numP l))))
 (Own.tok ((1:Nat))),
 AV.ptr ((0:Nat)) ((0:Nat)),
 AV.int IntKind.i64 (↑(cntS (numP l)):Int),AV.bool true,
 AV.ptr ((1:Nat)) ((0:Nat)),
 AV.int IntKind.i64 (↑(cntS (numP l)):Int),AV.bool true] ∧
 StIs
 { boxes:=[some [AV.sl ((3:Nat)) (bxsL (allS (numP l))) Own.no],some [AV.sl ((3:Nat)) (bxsL (allS (numP l))) Own.no]],live:=[(l.length,(35:Nat)),((List.take x (List.reverse (numP l))).length,(35:Nat))] }
 { boxes:=[some [AV.sl ((3:Nat)) (bxsL (allS (numP l))) Own.no],some [AV.sl ((3:Nat)) (bxsL (allS (numP l))) Own.no]],live:=[(l.length,(35:Nat)),(l.length,(35:Nat))] } ∧
 True∧True) ∧
 (true = false →
 ∃ (_y:Unit),
 ValsAre
 [AV.int IntKind.i64 turn,
 AV.sl ((11:Nat)) (pksL (seL (numP l))) (Own.tok ((0:Nat))),
 AV.sl ((11:Nat))
 (pksL (seL (List.take x (List.reverse (numP l)))))
 (Own.tok ((1:Nat))),
 AV.ptr ((0:Nat)) ((0:Nat)),
 AV.int IntKind.i64 (↑(cntS (numP l)):Int),AV.bool false,
 AV.ptr ((1:Nat)) ((0:Nat)),
 AV.int IntKind.i64 (↑(cntS (numP l)):Int),AV.bool false]
 [AV.int IntKind.i64 turn,
 AV.sl ((11:Nat)) (pksL (seL (numP l))) (Own.tok ((0:Nat))),
 AV.sl ((11:Nat)) (pksL (seL (List.reverse (numP l))))
 (Own.tok ((1:Nat))),
 AV.ptr ((0:Nat)) ((0:Nat)),
 AV.int IntKind.i64 (↑(cntS (numP l)):Int),AV.bool true,
 AV.ptr ((1:Nat)) ((0:Nat)),
 AV.int IntKind.i64 (↑(cntS (numP l)):Int),AV.bool true] ∧
 StIs
 { boxes:=[some [AV.sl ((3:Nat)) (bxsL (allS (numP l))) Own.no],some [AV.sl ((3:Nat)) (bxsL (allS (numP l))) Own.no]],live:=[(l.length,(35:Nat)),((List.take x (List.reverse (numP l))).length,(35:Nat))] }
 { boxes:=[some [AV.sl ((3:Nat)) (bxsL (allS (numP l))) Own.no],some [AV.sl ((3:Nat)) (bxsL (allS (numP l))) Own.no]],live:=[(l.length,(35:Nat)),(l.length,(35:Nat))] } ∧
 True∧True))))) ∧
 ∀ (_x:Unit),
 True →
 True →
 (((11:Nat) = (11:Nat)∨pksL (seL (List.reverse (numP l))) = []) ∧
 ((pksL (seL (List.reverse (numP l)))).length + (pksL (seL (numP l))).length) * (137:Nat) ≤
 (70368744177664:Nat) ∧
 l.length = (pksL (seL (List.reverse (numP l)))).length ∧
 CallIs
 (tbl
 [((7:Nat),s7),((17:Nat),s17),
 ((18:Nat),fun (args:List AV)=>s18 (List.map wk1 args)),((10:Nat),s10w),
 ((13:Nat),s13),((19:Nat),fun (args:List AV)=>s19 (List.map wk1 args))]
 ((18:Nat))
 [AV.agg [AV.sl ((0:Nat)) [] Own.nil],
 AV.sl ((11:Nat)) (pksL (seL (List.reverse (numP l))) ++ pksL (seL (numP l))) Own.no])
 (AV.tup
 [AV.agg [AV.sl ((3:Nat)) (bxsL (allS (numP l))) Own.no],
 AV.int IntKind.i64 (↑(cntS (numP l)):Int),AV.bool true])
 [] ∧
 (true = true →
 ∃ (_y:Unit),
 ValsAre
 [AV.int IntKind.i64 turn,AV.sl ((11:Nat)) (pksL (seL (numP l))) (Own.tok ((0:Nat))),
 AV.ptr ((0:Nat)) ((0:Nat)),AV.int IntKind.i64 (↑(cntS (numP l)):Int),
 AV.bool true,AV.ptr ((1:Nat)) ((0:Nat)),
 AV.int IntKind.i64 (↑(cntS (numP l)):Int),AV.bool true,
 AV.ptr ((2:Nat)) ((0:Nat)),AV.int IntKind.i64 (↑(cntS (numP l)):Int),
 AV.bool true]
 [AV.int IntKind.i64 turn,AV.sl ((11:Nat)) (pksL (seL (numP l))) (Own.tok ((0:Nat))),
 AV.ptr ((0:Nat)) ((0:Nat)),AV.int IntKind.i64 (↑(cntS (numP l)):Int),
 AV.bool true,AV.ptr ((1:Nat)) ((0:Nat)),
 AV.int IntKind.i64 (↑(cntS (numP l)):Int),AV.bool true,
 AV.ptr ((2:Nat)) ((0:Nat)),AV.int IntKind.i64 (↑(cntS (numP l)):Int),
 AV.bool true] ∧
 StIs
 { boxes:=[some [AV.sl ((3:Nat)) (bxsL (allS (numP l))) Own.no],some [AV.sl ((3:Nat)) (bxsL (allS (numP l))) Own.no],some [AV.sl ((3:Nat)) (bxsL (allS (numP l))) Own.no]],live:=[(l.length,(35:Nat)),((pksL (seL (List.reverse (numP l)))).length + (pksL (seL (numP l))).length,(35:Nat))] }
 { boxes:=[some [AV.sl ((3:Nat)) (bxsL (allS (numP l))) Own.no],some [AV.sl ((3:Nat)) (bxsL (allS (numP l))) Own.no],some [AV.sl ((3:Nat)) (bxsL (allS (numP l))) Own.no]],live:=[(l.length,(35:Nat)),(l.length + l.length,(35:Nat))] } ∧
 True∧True) ∧
 (true = false →
 ∃ (_y:Unit),
 ValsAre
 [AV.int IntKind.i64 turn,AV.sl ((11:Nat)) (pksL (seL (numP l))) (Own.tok ((0:Nat))),
 AV.ptr ((0:Nat)) ((0:Nat)),AV.int IntKind.i64 (↑(cntS (numP l)):Int),
 AV.bool true,AV.ptr ((1:Nat)) ((0:Nat)),
 AV.int IntKind.i64 (↑(cntS (numP l)):Int),AV.bool true,
 AV.ptr ((2:Nat)) ((0:Nat)),AV.int IntKind.i64 (↑(cntS (numP l)):Int),
 AV.bool false]
 [AV.int IntKind.i64 turn,AV.sl ((11:Nat)) (pksL (seL (numP l))) (Own.tok ((0:Nat))),
 AV.ptr ((0:Nat)) ((0:Nat)),AV.int IntKind.i64 (↑(cntS (numP l)):Int),
 AV.bool true,AV.ptr ((1:Nat)) ((0:Nat)),
 AV.int IntKind.i64 (↑(cntS (numP l)):Int),AV.bool true,
 AV.ptr ((2:Nat)) ((0:Nat)),AV.int IntKind.i64 (↑(cntS (numP l)):Int),
 AV.bool true] ∧
 StIs
 { boxes:=[some [AV.sl ((3:Nat)) (bxsL (allS (numP l))) Own.no],some [AV.sl ((3:Nat)) (bxsL (allS (numP l))) Own.no],some [AV.sl ((3:Nat)) (bxsL (allS (numP l))) Own.no]],live:=[(l.length,(35:Nat)),((pksL (seL (List.reverse (numP l)))).length + (pksL (seL (numP l))).length,(35:Nat))] }
 { boxes:=[some [AV.sl ((3:Nat)) (bxsL (allS (numP l))) Own.no],some [AV.sl ((3:Nat)) (bxsL (allS (numP l))) Own.no],some [AV.sl ((3:Nat)) (bxsL (allS (numP l))) Own.no]],live:=[(l.length,(35:Nat)),(l.length + l.length,(35:Nat))] } ∧
 True∧True)) ∧
 ∀ (_x:Unit),
 True →
 True →
 ((0:Int)≤turn∧turn < (↑(pksL (seL (numP l))).length:Int)) ∧
 ∃ (s:List UInt8),
 ∃ (b:Bool),
 ∃ (n:Int),
 ∃ (s_1:List UInt8),
 ∃ (n_1:Int),
 ∃ (n_2:Int),
 ∃ (n_3:Int),
 ∃ (s_2:List UInt8),
 ∃ (s_3:List UInt8),
 ∃ (n_4:Int),
 ∃ (es:List AV),
 takeAt PI ((35:Nat)) (pksL (seL (numP l))) turn.toNat ((0:Nat)) =
 some
 (AV.agg
 [AV.str s,AV.bool b,AV.int IntKind.i64 n,AV.str s_1,
 AV.int IntKind.i64 n_1,AV.int IntKind.i64 n_2,
 AV.int IntKind.i64 n_3,AV.str s_2,AV.str s_3,
 AV.int IntKind.i64 n_4,AV.sl ((3:Nat)) es Own.no]) ∧
 ∃ (n_5:Int),
 CallIs
 (tbl
 [((7:Nat),s7),((17:Nat),s17),
 ((18:Nat),fun (args:List AV)=>s18 (List.map wk1 args)),
 ((10:Nat),s10w),((13:Nat),s13),
 ((19:Nat),fun (args:List AV)=>s19 (List.map wk1 args))]
 ((10:Nat))
 [AV.agg [AV.sl ((3:Nat)) (bxsL (allS (numP l))) Own.no],
 AV.agg
 [AV.str s,AV.bool b,AV.int IntKind.i64 n,AV.str s_1,
 AV.int IntKind.i64 n_1,AV.int IntKind.i64 n_2,
 AV.int IntKind.i64 n_3,AV.str s_2,AV.str s_3,
 AV.int IntKind.i64 n_4,AV.sl ((3:Nat)) es Own.no]])
 (AV.tup
 [AV.agg [AV.sl ((3:Nat)) (bxsL (allS (numP l))) Own.no],
 AV.bool false,
 AV.agg
 [AV.str [(97:UInt8),(112:UInt8),(112:UInt8)],
 AV.bool true,AV.int IntKind.i64 n_5,AV.str [],
 AV.int IntKind.i64 (0:Int),AV.int IntKind.i64 (0:Int),
 AV.int IntKind.i64 (0:Int),AV.str [],AV.str [],
 AV.int IntKind.i64 (0:Int),AV.sl ((3:Nat)) [] Own.no],
 AV.int IntKind.i64 (0:Int)])
 [] ∧
 (false = true →
 (((↑(bxsL (allS (numP l))).length:Int) != (1:Int)) = true →
 RetIs (AV.bool false) [] (AV.bool true,[])) ∧
 (((↑(bxsL (allS (numP l))).length:Int) != (1:Int)) = false →
 (((↑(cntS (numP l)):Int) == (↑(cntS (numP l)):Int)) = true →
 (((↑(cntS (numP l)):Int) == (↑(cntS (numP l)):Int)) =
 true →
 CallIs
 (tbl
 [((7:Nat),s7),((17:Nat),s17),
 ((18:Nat),fun (args:List AV) =>
 s18 (List.map wk1 args)),
 ((10:Nat),s10w),((13:Nat),s13),
 ((19:Nat),fun (args:List AV) =>
 s19 (List.map wk1 args))]
 ((13:Nat))
 [AV.agg
 [AV.sl ((3:Nat)) (bxsL (allS (numP l)))
 Own.no],
 AV.agg
 [AV.sl ((3:Nat)) (bxsL (allS (numP l)))
 Own.no]])
 (AV.bool true) [] ∧
 (true = true →
 CallIs
 (tbl
 [((7:Nat),s7),((17:Nat),s17),
 ((18:Nat),fun (args:List AV) =>
 s18 (List.map wk1 args)),
 ((10:Nat),s10w),((13:Nat),s13),
 ((19:Nat),fun (args:List AV) =>
 s19 (List.map wk1 args))]
 ((13:Nat))
 [AV.agg
 [AV.sl ((3:Nat))
 (bxsL (allS (numP l))) Own.no],
 AV.agg
 [AV.sl ((3:Nat))
 (bxsL (allS (numP l))) Own.no]])
 (AV.bool true) [] ∧
 (true = true →
 (true = true →
 RetIs (AV.bool false) []
 (AV.bool true,[])) ∧
 (true = false →
 RetIs (AV.bool false) []
 (AV.bool true,[]))) ∧
 (true = false →
 RetIs (AV.bool false) []
 (AV.bool true,[]))) ∧
 (true = false →
 RetIs (AV.bool false) [] (AV.bool true,[]))) ∧
 (((↑(cntS (numP l)):Int) == (↑(cntS (numP l)):Int)) =
 false →
 RetIs (AV.bool false) [] (AV.bool true,[]))) ∧
 (((↑(cntS (numP l)):Int) == (↑(cntS (numP l)):Int)) =
 false →
 RetIs (AV.bool false) [] (AV.bool true,[])))) ∧
 (false = false →
 (((↑(bxsL (allS (numP l))).length:Int) != (1:Int)) = true →
 RetIs (AV.bool false) [] (AV.bool true,[])) ∧
 (((↑(bxsL (allS (numP l))).length:Int) != (1:Int)) = false →
 (((↑(cntS (numP l)):Int) == (↑(cntS (numP l)):Int)) = true →
 (((↑(cntS (numP l)):Int) == (↑(cntS (numP l)):Int)) =
 true →
 CallIs
 (tbl
 [((7:Nat),s7),((17:Nat),s17),
 ((18:Nat),fun (args:List AV) =>
 s18 (List.map wk1 args)),
 ((10:Nat),s10w),((13:Nat),s13),
 ((19:Nat),fun (args:List AV) =>
 s19 (List.map wk1 args))]
 ((13:Nat))
 [AV.agg
 [AV.sl ((3:Nat)) (bxsL (allS (numP l)))
 Own.no],
 AV.agg
 [AV.sl ((3:Nat)) (bxsL (allS (numP l)))
 Own.no]])
 (AV.bool true) [] ∧
 (true = true →
 CallIs
 (tbl
 [((7:Nat),s7),((17:Nat),s17),
 ((18:Nat),fun (args:List AV) =>
 s18 (List.map wk1 args)),
 ((10:Nat),s10w),((13:Nat),s13),
 ((19:Nat),fun (args:List AV) =>
 s19 (List.map wk1 args))]
 ((13:Nat))
 [AV.agg
 [AV.sl ((3:Nat))
 (bxsL (allS (numP l))) Own.no],
 AV.agg
 [AV.sl ((3:Nat))
 (bxsL (allS (numP l))) Own.no]])
 (AV.bool true) [] ∧
 (true = true →
 (true = true →
 CallIs
 (tbl
 [((7:Nat),s7),
 ((17:Nat),s17),
 ((18:Nat),
 fun (args:List AV) =>
 s18 (List.map wk1 args)),
 ((10:Nat),s10w),
 ((13:Nat),s13),
 ((19:Nat),
 fun (args:List AV) =>
 s19 (List.map wk1 args))]
 ((13:Nat))
 [AV.agg
 [AV.sl ((3:Nat))
 (bxsL (allS (numP l)))
 Own.no],
 AV.agg
 [AV.sl ((3:Nat))
 (bxsL (allS (numP l)))
 Own.no]])
 (AV.bool true) [] ∧
 (true = true →
 ((0:Int)≤(0:Int) ∧
 (0:Int) <
 (↑(bxsL
 (allS
 (numP
 l))).length :
 Int)) ∧
 ∃ (n:Int),
 takeAt PI ((3:Nat))
 (bxsL (allS (numP l)))
 ((0:Nat))
 ((1:Nat)) =
 some
 (AV.int IntKind.i64 n) ∧
 ((n_5 == n) = true →
 ((11:Nat) =
 (11:Nat) ∨
 pksL
 (seL (numP l)) =
 []) ∧
 ((pksL
 (seL
 (numP
 l))).length +
 (1:Nat)) *
 (137:Nat) ≤
 nat_lit
 70368744177664 ∧
 l.length =
 (pksL
 (seL
 (numP
 l))).length ∧
 CallIs
 (tbl
 [((7:Nat),
 s7),
 (nat_lit
 17,
 s17),
 (nat_lit
 18,
 fun
 (args :
 List
 AV) =>
 s18
 (List.map
 wk1
 args)),
 (nat_lit
 10,
 s10w),
 (nat_lit
 13,
 s13),
 (nat_lit
 19,
 fun
 (args :
 List
 AV) =>
 s19
 (List.map
 wk1
 args))]
 ((19:Nat))
 [AV.agg
 [AV.sl
 (nat_lit
 11)
 (pksL
 (seL
 (numP
 l)) ++
 [AV.agg
 [AV.str
 [(97 :
 UInt8),
 (112 :
 UInt8),
 (112 :
 UInt8)],
 AV.bool
 true,
 AV.int
 IntKind.i64
 n_5,
 AV.str
 [],
 AV.int
 IntKind.i64
 (0 :
 Int),
 AV.int
 IntKind.i64
 (0 :
 Int),
 AV.int
 IntKind.i64
 (0 :
 Int),
 AV.str
 [],
 AV.str
 [],
 AV.int
 IntKind.i64
 (0 :
 Int),
 AV.sl
 (nat_lit
 3)
 []
 Own.no]])
 Own.no]])
 (AV.int
 IntKind.i64
 (0:Int))
 [] ∧
 (true = true →
 RetIs
 (AV.bool
 true)
 []
 (AV.bool
 true,
 [])) ∧
 (true =
 false →
 RetIs
 (AV.bool
 false)
 []
 (AV.bool
 true,
 []))) ∧
 ((n_5 == n) = false →
 RetIs (AV.bool false) []
 (AV.bool true,[]))) ∧
 (true = false →
 RetIs (AV.bool false) []
 (AV.bool true,[]))) ∧
 (true = false →
 RetIs (AV.bool false) []
 (AV.bool true,[]))) ∧
 (true = false →
 RetIs (AV.bool false) []
 (AV.bool true,[]))) ∧
 (true = false →
 RetIs (AV.bool false) [] (AV.bool true,[]))) ∧
 (((↑(cntS (numP l)):Int) == (↑(cntS (numP l)):Int)) =
 false →
 RetIs (AV.bool false) [] (AV.bool true,[]))) ∧
 (((↑(cntS (numP l)):Int) == (↑(cntS (numP l)):Int)) =
 false →
 RetIs (AV.bool false) [] (AV.bool true,[]))))))))))) ∧
    (true = false→RetIs (AV.bool false) [] (AV.bool true,[]))):=by kernel_rfl
end Go.Abs
