/- Own texts, part 5. -/
import Derived.Test.YtpglogahncpnoaaPart4

namespace Go.Abs
open Go.Proofs
theorem w10f (m:Int) (r:List BxI) (b:BxI) (p:PkQ) (kind ref ev:Int) (tab key:List UInt8) (sz:Nat) (es:List AV) (o:Own):(pureW PI (GI m) XF (tbl [(27,s27),(28,s28f)]) (itbl [(32,s32),(31,s31),(33,s33n),(34,s34)]) (a10f p kind ref ev tab key (.sl sz es o) r b) [] 10 [.agg [.sl 3 (bxsL r) .no],.agg (pkC p kind ref ev tab key (.sl sz es o))] (recvR (recvP r p))) =
((p.ack = true →
    RetIs
      (AV.tup
        [AV.agg [AV.sl ((0:Nat)) [] Own.nil],AV.bool false,
 AV.agg
 [AV.str [],AV.bool false,AV.int IntKind.i64 (0:Int),AV.str [],AV.int IntKind.i64 (0:Int),AV.int IntKind.i64 (0:Int),
 AV.int IntKind.i64 (0:Int),AV.str [],AV.str [],AV.int IntKind.i64 (0:Int),AV.sl ((0:Nat)) [] Own.nil],
 AV.int IntKind.i64 (1:Int)])
      [] (recvR (recvP r p))) ∧
  (p.ack = false →
    ((p.next != (0:Int)) = true →
        RetIs
 (AV.tup
 [AV.agg [AV.sl ((0:Nat)) [] Own.nil],AV.bool false,
 AV.agg
 [AV.str [],AV.bool false,AV.int IntKind.i64 (0:Int),AV.str [],AV.int IntKind.i64 (0:Int),AV.int IntKind.i64 (0:Int),
 AV.int IntKind.i64 (0:Int),AV.str [],AV.str [],AV.int IntKind.i64 (0:Int),AV.sl ((0:Nat)) [] Own.nil],
 AV.int IntKind.i64 (1:Int)])
 [] (recvR (recvP r p))) ∧
      ((p.next != (0 : Int)) = false →
        ∃ (b_1:Bool),
 CallIs (tbl [((27:Nat),s27),((28:Nat),s28f)] ((27:Nat)) [AV.str p.src]) (AV.bool b_1) [] ∧
 (b_1 = true →
 ((!(p.fsrc == p.src && (p.seq == p.seq && true))) = true →
 RetIs
 (AV.tup
 [AV.agg [AV.sl ((0:Nat)) [] Own.nil],AV.bool false,
 AV.agg
 [AV.str [],AV.bool false,AV.int IntKind.i64 (0:Int),AV.str [],AV.int IntKind.i64 (0:Int),AV.int IntKind.i64 (0:Int),
 AV.int IntKind.i64 (0:Int),AV.str [],AV.str [],AV.int IntKind.i64 (0:Int),AV.sl ((0:Nat)) [] Own.nil],
 AV.int IntKind.i64 (1:Int)])
 [] (recvR (recvP r p))) ∧
 ((!(p.fsrc == p.src && (p.seq == p.seq && true))) = false →
 (decide (p.seq < (1:Int)) = true →
 RetIs
 (AV.tup
 [AV.agg [AV.sl ((0:Nat)) [] Own.nil],AV.bool false,
 AV.agg
 [AV.str [],AV.bool false,AV.int IntKind.i64 (0:Int),AV.str [],AV.int IntKind.i64 (0:Int),AV.int IntKind.i64 (0:Int),
 AV.int IntKind.i64 (0:Int),AV.str [],AV.str [],AV.int IntKind.i64 (0:Int),AV.sl ((0:Nat)) [] Own.nil],
 AV.int IntKind.i64 (1:Int)])
 [] (recvR (recvP r p))) ∧
 (decide (p.seq < (1:Int)) = false →
 (decide (p.seq > (1099511627776:Int)) = true →
 RetIs
 (AV.tup
 [AV.agg [AV.sl ((0:Nat)) [] Own.nil],AV.bool false,
 AV.agg
 [AV.str [],AV.bool false,AV.int IntKind.i64 (0:Int),AV.str [],AV.int IntKind.i64 (0:Int),
 AV.int IntKind.i64 (0:Int),AV.int IntKind.i64 (0:Int),AV.str [],AV.str [],AV.int IntKind.i64 (0:Int),
 AV.sl ((0:Nat)) [] Own.nil],
 AV.int IntKind.i64 (1:Int)])
 [] (recvR (recvP r p))) ∧
 (decide (p.seq > (1099511627776:Int)) = false →
 ∃ (n:Int),
 CallIs
 (tbl [((27:Nat),s27),((28:Nat),s28f)] ((28:Nat))
 [AV.sl ((3:Nat)) (bxsL r) Own.no,AV.str p.src,AV.fn ((29:Nat)) []])
 (AV.tup [AV.int IntKind.i64 n,AV.bool true]) [] ∧
 (true = true →
 ((0:Int)≤n∧n < (↑(bxsL r).length:Int)) ∧
 ∃ (s:List UInt8),
 ∃ (n_1:Int),
 ∃ (es_1:List AV),
 takeAt PI ((75:Nat)) (bxsL r) n.toNat ((0:Nat)) =
 some (AV.agg [AV.str s,AV.int IntKind.i64 n_1,AV.sl ((1:Nat)) es_1 Own.no]) ∧
 (decide (p.seq > IntKind.i64.wrap (n_1 + (64:Int))) = true →
 RetIs
 (AV.tup
 [AV.agg [AV.sl ((0:Nat)) [] Own.nil],AV.bool false,
 AV.agg
 [AV.str [],AV.bool false,AV.int IntKind.i64 (0:Int),AV.str [],AV.int IntKind.i64 (0:Int),
 AV.int IntKind.i64 (0:Int),AV.int IntKind.i64 (0:Int),AV.str [],AV.str [],
 AV.int IntKind.i64 (0:Int),AV.sl ((0:Nat)) [] Own.nil],
 AV.int IntKind.i64 (410:Int)])
 [] (recvR (recvP r p))) ∧
 (decide (p.seq > IntKind.i64.wrap (n_1 + (64:Int))) = false →
 (∃ (y:Nat),
 ValsAre
 [AV.ptr ((0:Nat)) ((0:Nat)),AV.ptr ((1:Nat)) ((0:Nat)),AV.ptr ((2:Nat)) ((0:Nat)),
 AV.ptr ((3:Nat)) ((0:Nat)),AV.int IntKind.i64 p.seq,AV.int IntKind.i64 n,AV.bool true,
 AV.ptr ((4:Nat)) ((0:Nat)),AV.mp ((5:Nat)),AV.sl ((1:Nat)) es_1 Own.no,
 AV.int IntKind.i64 (↑es_1.length:Int),AV.int IntKind.i64 (0:Int)]
 [AV.ptr ((0:Nat)) ((0:Nat)),AV.ptr ((1:Nat)) ((0:Nat)),AV.ptr ((2:Nat)) ((0:Nat)),
 AV.ptr ((3:Nat)) ((0:Nat)),AV.int IntKind.i64 p.seq,
 AV.int IntKind.i64 (↑(lowB r p.src):Int),AV.bool true,AV.ptr ((4:Nat)) ((0:Nat)),
 AV.mp ((5:Nat)),AV.sl ((1:Nat)) (intsA b.ahead) Own.no,
 AV.int IntKind.i64 (↑b.ahead.length:Int),AV.int IntKind.i64 (↑y:Int)] ∧
 StIs
 { boxes:=[some [AV.sl ((3:Nat)) (bxsL r) Own.no],some [AV.str p.src,AV.bool p.ack,AV.int IntKind.i64 p.next,AV.str p.fsrc,AV.int IntKind.i64 p.seq,AV.int IntKind.i64 kind,AV.int IntKind.i64 ref,AV.str tab,AV.str key,AV.int IntKind.i64 ev,AV.sl sz es o],some [AV.sl ((0:Nat)) [] Own.nil],some [AV.str [],AV.bool false,AV.int IntKind.i64 (0:Int),AV.str [],AV.int IntKind.i64 (0:Int),AV.int IntKind.i64 (0:Int),AV.int IntKind.i64 (0:Int),AV.str [],AV.str [],AV.int IntKind.i64 (0:Int),AV.sl ((0:Nat)) [] Own.nil],some [AV.str s,AV.int IntKind.i64 n_1,AV.sl ((1:Nat)) es_1 Own.no],some [AV.tup [AV.int IntKind.i64 (100:Int),AV.int IntKind.i64 (0:Int),AV.tup []]]],live:=[] }
 { boxes:=[some [AV.sl ((3:Nat)) (bxsL r) Own.no],some [AV.str p.src,AV.bool p.ack,AV.int IntKind.i64 p.next,AV.str p.fsrc,AV.int IntKind.i64 p.seq,AV.int IntKind.i64 kind,AV.int IntKind.i64 ref,AV.str tab,AV.str key,AV.int IntKind.i64 ev,AV.sl sz es o],some [AV.sl ((0:Nat)) [] Own.nil],some [AV.str [],AV.bool false,AV.int IntKind.i64 (0:Int),AV.str [],AV.int IntKind.i64 (0:Int),AV.int IntKind.i64 (0:Int),AV.int IntKind.i64 (0:Int),AV.str [],AV.str [],AV.int IntKind.i64 (0:Int),AV.sl ((0:Nat)) [] Own.nil],some [AV.str b.src,AV.int IntKind.i64 b.next,AV.sl ((1:Nat)) (intsA b.ahead) Own.no],some [AV.tup [AV.int IntKind.i64 (100:Int),AV.int IntKind.i64 (↑y:Int),AV.tup (mpL (List.take y b.ahead))]]],live:=[] } ∧
 y≤b.ahead.length∧True) ∧
 ∀ (x:Nat),
 x≤b.ahead.length →
 (decide ((↑x:Int) < (↑b.ahead.length:Int)) = true →
 ((0:Int)≤(↑x:Int)∧(↑x:Int) < (↑(intsA b.ahead).length:Int)) ∧
 ∃ (n:Int),
 takeAt PI ((3:Nat)) (intsA b.ahead) (↑x:Int).toNat ((0:Nat)) =
 some (AV.int IntKind.i64 n) ∧
 True ∧
 KeyIs PI ((3:Nat)) (AV.int IntKind.i64 n) ∧
 ValIs (AV.bool true) ∧
 (0:Int)≤(↑x:Int) ∧
 (↑x:Int) < (70368744177664:Int) ∧
 ∃ (y:Nat),
 ValsAre
 [AV.ptr ((0:Nat)) ((0:Nat)),AV.ptr ((1:Nat)) ((0:Nat)),
 AV.ptr ((2:Nat)) ((0:Nat)),AV.ptr ((3:Nat)) ((0:Nat)),
 AV.int IntKind.i64 p.seq,AV.int IntKind.i64 (↑(lowB r p.src):Int),
 AV.bool true,AV.ptr ((4:Nat)) ((0:Nat)),AV.mp ((5:Nat)),
 AV.sl ((1:Nat)) (intsA b.ahead) Own.no,
 AV.int IntKind.i64 (↑b.ahead.length:Int),
 AV.int IntKind.i64 (IntKind.i64.wrap ((↑x:Int) + (1:Int)))]
 [AV.ptr ((0:Nat)) ((0:Nat)),AV.ptr ((1:Nat)) ((0:Nat)),
 AV.ptr ((2:Nat)) ((0:Nat)),AV.ptr ((3:Nat)) ((0:Nat)),
 AV.int IntKind.i64 p.seq,AV.int IntKind.i64 (↑(lowB r p.src):Int),
 AV.bool true,AV.ptr ((4:Nat)) ((0:Nat)),AV.mp ((5:Nat)),
 AV.sl ((1:Nat)) (intsA b.ahead) Own.no,
 AV.int IntKind.i64 (↑b.ahead.length:Int),AV.int IntKind.i64 (↑y:Int)] ∧
 StIs
 { boxes:=[some [AV.sl ((3:Nat)) (bxsL r) Own.no],some [AV.str p.src,AV.bool p.ack,AV.int IntKind.i64 p.next,AV.str p.fsrc,AV.int IntKind.i64 p.seq,AV.int IntKind.i64 kind,AV.int IntKind.i64 ref,AV.str tab,AV.str key,AV.int IntKind.i64 ev,AV.sl sz es o],some [AV.sl ((0:Nat)) [] Own.nil],some [AV.str [],AV.bool false,AV.int IntKind.i64 (0:Int),AV.str [],AV.int IntKind.i64 (0:Int),AV.int IntKind.i64 (0:Int),AV.int IntKind.i64 (0:Int),AV.str [],AV.str [],AV.int IntKind.i64 (0:Int),AV.sl ((0:Nat)) [] Own.nil],some [AV.str b.src,AV.int IntKind.i64 b.next,AV.sl ((1:Nat)) (intsA b.ahead) Own.no],some [AV.tup [AV.int IntKind.i64 (100:Int),AV.int IntKind.i64 ((↑x:Int) + (1:Int)),AV.tup (keptPutM (mpL (List.take x b.ahead)) (AV.int IntKind.i64 n) (AV.bool true))]]],live:=[] }
 { boxes:=[some [AV.sl ((3:Nat)) (bxsL r) Own.no],some [AV.str p.src,AV.bool p.ack,AV.int IntKind.i64 p.next,AV.str p.fsrc,AV.int IntKind.i64 p.seq,AV.int IntKind.i64 kind,AV.int IntKind.i64 ref,AV.str tab,AV.str key,AV.int IntKind.i64 ev,AV.sl sz es o],some [AV.sl ((0:Nat)) [] Own.nil],some [AV.str [],AV.bool false,AV.int IntKind.i64 (0:Int),AV.str [],AV.int IntKind.i64 (0:Int),AV.int IntKind.i64 (0:Int),AV.int IntKind.i64 (0:Int),AV.str [],AV.str [],AV.int IntKind.i64 (0:Int),AV.sl ((0:Nat)) [] Own.nil],some [AV.str b.src,AV.int IntKind.i64 b.next,AV.sl ((1:Nat)) (intsA b.ahead) Own.no],some [AV.tup [AV.int IntKind.i64 (100:Int),AV.int IntKind.i64 (↑y:Int),AV.tup (mpL (List.take y b.ahead))]]],live:=[] } ∧
 y≤b.ahead.length∧b.ahead.length - y < b.ahead.length - x) ∧
 (decide ((↑x:Int) < (↑b.ahead.length:Int)) = false →
 (decide (p.seq ≥ b.next) = true →
 KeyIs PI ((3:Nat)) (AV.int IntKind.i64 p.seq) ∧
 ∃ (b_2:Bool),
 LookIs (mpL (List.take x b.ahead)) (AV.int IntKind.i64 p.seq) (AV.bool false)
 (AV.bool b_2) ∧
 (b_2 = true →
 RetIs
 (AV.tup
 [AV.agg [AV.sl ((3:Nat)) (bxsL r) Own.no],AV.bool false,
 AV.agg
 [AV.str p.src,AV.bool true,AV.int IntKind.i64 b.next,AV.str [],
 AV.int IntKind.i64 (0:Int),AV.int IntKind.i64 (0:Int),
 AV.int IntKind.i64 (0:Int),AV.str [],AV.str [],
 AV.int IntKind.i64 (0:Int),AV.sl ((0:Nat)) [] Own.nil],
 AV.int IntKind.i64 (0:Int)])
 [] (recvR (recvP r p))) ∧
 (b_2 = false →
 True ∧
 KeyIs PI ((3:Nat)) (AV.int IntKind.i64 p.seq) ∧
 ValIs (AV.bool true) ∧
 (0:Int)≤(↑x:Int) ∧
 (↑x:Int) < (70368744177664:Int) ∧
 (∃ (y:St21),
 ValsAre
 [AV.ptr ((0:Nat)) ((0:Nat)),AV.ptr ((1:Nat)) ((0:Nat)),
 AV.ptr ((2:Nat)) ((0:Nat)),AV.bool true,
 AV.ptr ((3:Nat)) ((0:Nat)),AV.int IntKind.i64 p.seq,
 AV.int IntKind.i64 (↑(lowB r p.src):Int),AV.bool true,
 AV.ptr ((4:Nat)) ((0:Nat)),AV.mp ((5:Nat))]
 [AV.ptr ((0:Nat)) ((0:Nat)),AV.ptr ((1:Nat)) ((0:Nat)),
 AV.ptr ((2:Nat)) ((0:Nat)),AV.bool true,
 AV.ptr ((3:Nat)) ((0:Nat)),AV.int IntKind.i64 p.seq,
 AV.int IntKind.i64 (↑(lowB r p.src):Int),AV.bool true,
 AV.ptr ((4:Nat)) ((0:Nat)),AV.mp ((5:Nat))] ∧
 StIs
 { boxes:=[some [AV.sl ((3:Nat)) (bxsL r) Own.no],some [AV.str p.src,AV.bool p.ack,AV.int IntKind.i64 p.next,AV.str p.fsrc,AV.int IntKind.i64 p.seq,AV.int IntKind.i64 kind,AV.int IntKind.i64 ref,AV.str tab,AV.str key,AV.int IntKind.i64 ev,AV.sl sz es o],some [AV.sl ((0:Nat)) [] Own.nil],some [AV.str [],AV.bool false,AV.int IntKind.i64 (0:Int),AV.str [],AV.int IntKind.i64 (0:Int),AV.int IntKind.i64 (0:Int),AV.int IntKind.i64 (0:Int),AV.str [],AV.str [],AV.int IntKind.i64 (0:Int),AV.sl ((0:Nat)) [] Own.nil],some [AV.str b.src,AV.int IntKind.i64 b.next,AV.sl ((1:Nat)) (intsA b.ahead) Own.no],some [AV.tup [AV.int IntKind.i64 (100:Int),AV.int IntKind.i64 ((↑x:Int) + (1:Int)),AV.tup (keptPutM (mpL (List.take x b.ahead)) (AV.int IntKind.i64 p.seq) (AV.bool true))]]],live:=[] }
 { boxes:=[some [AV.sl ((3:Nat)) (bxsL r) Own.no],some [AV.str p.src,AV.bool p.ack,AV.int IntKind.i64 p.next,AV.str p.fsrc,AV.int IntKind.i64 p.seq,AV.int IntKind.i64 kind,AV.int IntKind.i64 ref,AV.str tab,AV.str key,AV.int IntKind.i64 ev,AV.sl sz es o],some [AV.sl ((0:Nat)) [] Own.nil],some [AV.str [],AV.bool false,AV.int IntKind.i64 (0:Int),AV.str [],AV.int IntKind.i64 (0:Int),AV.int IntKind.i64 (0:Int),AV.int IntKind.i64 (0:Int),AV.str [],AV.str [],AV.int IntKind.i64 (0:Int),AV.sl ((0:Nat)) [] Own.nil],some [AV.str b.src,AV.int IntKind.i64 y.x,AV.sl ((1:Nat)) (intsA b.ahead) Own.no],some [AV.tup [AV.int IntKind.i64 (100:Int),AV.int IntKind.i64 ((↑b.ahead.length:Int) + (1:Int)),AV.tup (mpL y.l)]]],live:=[] } ∧
 I21 (insI p.seq b.ahead) b.next y∧True) ∧
 ∀ (x:St21),
 I21 (insI p.seq b.ahead) b.next x →
 KeyIs PI ((3:Nat)) (AV.int IntKind.i64 x.x) ∧
 ∃ (b_3:Bool),
 LookIs (mpL x.l) (AV.int IntKind.i64 x.x) (AV.bool false)
 (AV.bool b_3) ∧
 (b_3 = true →
 True ∧
 KeyIs PI ((3:Nat)) (AV.int IntKind.i64 x.x) ∧
 ∃ (y:St21),
 ValsAre
 [AV.ptr ((0:Nat)) ((0:Nat)),
 AV.ptr ((1:Nat)) ((0:Nat)),
 AV.ptr ((2:Nat)) ((0:Nat)),AV.bool true,
 AV.ptr ((3:Nat)) ((0:Nat)),
 AV.int IntKind.i64 p.seq,
 AV.int IntKind.i64 (↑(lowB r p.src):Int),
 AV.bool true,AV.ptr ((4:Nat)) ((0:Nat)),
 AV.mp ((5:Nat))]
 [AV.ptr ((0:Nat)) ((0:Nat)),
 AV.ptr ((1:Nat)) ((0:Nat)),
 AV.ptr ((2:Nat)) ((0:Nat)),AV.bool true,
 AV.ptr ((3:Nat)) ((0:Nat)),
 AV.int IntKind.i64 p.seq,
 AV.int IntKind.i64 (↑(lowB r p.src):Int),
 AV.bool true,AV.ptr ((4:Nat)) ((0:Nat)),
 AV.mp ((5:Nat))] ∧
 StIs
 { boxes:=[some [AV.sl ((3:Nat)) (bxsL r) Own.no],some [AV.str p.src,AV.bool p.ack,AV.int IntKind.i64 p.next,AV.str p.fsrc,AV.int IntKind.i64 p.seq,AV.int IntKind.i64 kind,AV.int IntKind.i64 ref,AV.str tab,AV.str key,AV.int IntKind.i64 ev,AV.sl sz es o],some [AV.sl ((0:Nat)) [] Own.nil],some [AV.str [],AV.bool false,AV.int IntKind.i64 (0:Int),AV.str [],AV.int IntKind.i64 (0:Int),AV.int IntKind.i64 (0:Int),AV.int IntKind.i64 (0:Int),AV.str [],AV.str [],AV.int IntKind.i64 (0:Int),AV.sl ((0:Nat)) [] Own.nil],some [AV.str b.src,AV.int IntKind.i64 (IntKind.i64.wrap (x.x + (1:Int))),AV.sl ((1:Nat)) (intsA b.ahead) Own.no],some [AV.tup [AV.int IntKind.i64 (100:Int),AV.int IntKind.i64 ((↑b.ahead.length:Int) + (1:Int)),AV.tup (keptDelM (mpL x.l) (AV.int IntKind.i64 x.x))]]],live:=[] }
 { boxes:=[some [AV.sl ((3:Nat)) (bxsL r) Own.no],some [AV.str p.src,AV.bool p.ack,AV.int IntKind.i64 p.next,AV.str p.fsrc,AV.int IntKind.i64 p.seq,AV.int IntKind.i64 kind,AV.int IntKind.i64 ref,AV.str tab,AV.str key,AV.int IntKind.i64 ev,AV.sl sz es o],some [AV.sl ((0:Nat)) [] Own.nil],some [AV.str [],AV.bool false,AV.int IntKind.i64 (0:Int),AV.str [],AV.int IntKind.i64 (0:Int),AV.int IntKind.i64 (0:Int),AV.int IntKind.i64 (0:Int),AV.str [],AV.str [],AV.int IntKind.i64 (0:Int),AV.sl ((0:Nat)) [] Own.nil],some [AV.str b.src,AV.int IntKind.i64 y.x,AV.sl ((1:Nat)) (intsA b.ahead) Own.no],some [AV.tup [AV.int IntKind.i64 (100:Int),AV.int IntKind.i64 ((↑b.ahead.length:Int) + (1:Int)),AV.tup (mpL y.l)]]],live:=[] } ∧
 I21 (insI p.seq b.ahead) b.next y ∧
 y.T.length < x.T.length) ∧
 (b_3 = false →
 True ∧
 ((keysZ (mpL x.l)).Nodup ∧
 (↑b.ahead.length:Int) + (1:Int) ≤
 (1000000000000:Int)) ∧
 (bxsL r ≠ [] ∧
 (bxsL r).length * (48:Nat) ≤
 (140737488355328:Nat)) ∧
 ((0:Int)≤(↑(lowB r p.src):Int) ∧
 (↑(lowB r p.src):Int) <
 (↑(bxsL r).length:Int)) ∧
 (↑(lowB r p.src):Int).toNat < (bxsL r).length ∧
 ((bxsL r).set (↑(lowB r p.src):Int).toNat
 (keptSetC
 ((bxsL r).getD
 (↑(lowB r p.src):Int).toNat AV.junk)
 ((0:Nat))
 [AV.str b.src,AV.int IntKind.i64 x.x,
 AV.sl ((1:Nat))
 (List.map (AV.int IntKind.i64)
 (sortZ (keysZ (mpL x.l))))
 Own.no])).length =
 (bxsL r).length ∧
 RetIs
 (AV.tup
 [AV.agg
 [AV.sl ((3:Nat))
 ((bxsL r).set
 (↑(lowB r p.src):Int).toNat
 (keptSetC
 ((bxsL r).getD
 (↑(lowB r p.src):Int).toNat
 AV.junk)
 ((0:Nat))
 [AV.str b.src,
 AV.int IntKind.i64 x.x,
 AV.sl ((1:Nat))
 (List.map
 (AV.int IntKind.i64)
 (sortZ (keysZ (mpL x.l))))
 Own.no]))
 Own.no],
 AV.bool true,
 AV.agg
 [AV.str p.src,AV.bool true,
 AV.int IntKind.i64 x.x,AV.str [],
 AV.int IntKind.i64 (0:Int),
 AV.int IntKind.i64 (0:Int),
 AV.int IntKind.i64 (0:Int),
 AV.str [],AV.str [],
 AV.int IntKind.i64 (0:Int),
 AV.sl ((0:Nat)) [] Own.nil],
 AV.int IntKind.i64 (0:Int)])
 [] (recvR (recvP r p))))) ∧
 (decide (p.seq ≥ b.next) = false →
 RetIs
 (AV.tup
 [AV.agg [AV.sl ((3:Nat)) (bxsL r) Own.no],AV.bool false,
 AV.agg
 [AV.str p.src,AV.bool true,AV.int IntKind.i64 b.next,AV.str [],
 AV.int IntKind.i64 (0:Int),AV.int IntKind.i64 (0:Int),
 AV.int IntKind.i64 (0:Int),AV.str [],AV.str [],AV.int IntKind.i64 (0:Int),
 AV.sl ((0:Nat)) [] Own.nil],
 AV.int IntKind.i64 (0:Int)])
 [] (recvR (recvP r p)))))) ∧
 (true = false →
 (decide ((↑(bxsL r).length:Int) ≥ (16:Int)) = true →
 RetIs
 (AV.tup
 [AV.agg [AV.sl ((0:Nat)) [] Own.nil],AV.bool false,
 AV.agg
 [AV.str [],AV.bool false,AV.int IntKind.i64 (0:Int),AV.str [],AV.int IntKind.i64 (0:Int),
 AV.int IntKind.i64 (0:Int),AV.int IntKind.i64 (0:Int),AV.str [],AV.str [],
 AV.int IntKind.i64 (0:Int),AV.sl ((0:Nat)) [] Own.nil],
 AV.int IntKind.i64 (2:Int)])
 [] (recvR (recvP r p))) ∧
 (decide ((↑(bxsL r).length:Int) ≥ (16:Int)) = false →
 (decide (p.seq > (65:Int)) = true →
 RetIs
 (AV.tup
 [AV.agg [AV.sl ((0:Nat)) [] Own.nil],AV.bool false,
 AV.agg
 [AV.str [],AV.bool false,AV.int IntKind.i64 (0:Int),AV.str [],AV.int IntKind.i64 (0:Int),
 AV.int IntKind.i64 (0:Int),AV.int IntKind.i64 (0:Int),AV.str [],AV.str [],
 AV.int IntKind.i64 (0:Int),AV.sl ((0:Nat)) [] Own.nil],
 AV.int IntKind.i64 (410:Int)])
 [] (recvR (recvP r p))) ∧
 (decide (p.seq > (65:Int)) = false →
 (∃ (y:Nat),
 ValsAre
 [AV.ptr ((0:Nat)) ((0:Nat)),AV.ptr ((1:Nat)) ((0:Nat)),AV.ptr ((2:Nat)) ((0:Nat)),
 AV.ptr ((3:Nat)) ((0:Nat)),AV.int IntKind.i64 p.seq,AV.int IntKind.i64 n,AV.bool false,
 AV.ptr ((4:Nat)) ((0:Nat)),AV.mp ((5:Nat)),AV.sl ((0:Nat)) [] Own.nil,
 AV.int IntKind.i64 (0:Int),AV.int IntKind.i64 (0:Int)]
 [AV.ptr ((0:Nat)) ((0:Nat)),AV.ptr ((1:Nat)) ((0:Nat)),AV.ptr ((2:Nat)) ((0:Nat)),
 AV.ptr ((3:Nat)) ((0:Nat)),AV.int IntKind.i64 p.seq,AV.int IntKind.i64 (↑(lowB r p.src):Int),
 AV.bool true,AV.ptr ((4:Nat)) ((0:Nat)),AV.mp ((5:Nat)),AV.sl ((1:Nat)) (intsA b.ahead) Own.no,
 AV.int IntKind.i64 (↑b.ahead.length:Int),AV.int IntKind.i64 (↑y:Int)] ∧
 StIs
 { boxes:=[some [AV.sl ((3:Nat)) (bxsL r) Own.no],some [AV.str p.src,AV.bool p.ack,AV.int IntKind.i64 p.next,AV.str p.fsrc,AV.int IntKind.i64 p.seq,AV.int IntKind.i64 kind,AV.int IntKind.i64 ref,AV.str tab,AV.str key,AV.int IntKind.i64 ev,AV.sl sz es o],some [AV.sl ((0:Nat)) [] Own.nil],some [AV.str [],AV.bool false,AV.int IntKind.i64 (0:Int),AV.str [],AV.int IntKind.i64 (0:Int),AV.int IntKind.i64 (0:Int),AV.int IntKind.i64 (0:Int),AV.str [],AV.str [],AV.int IntKind.i64 (0:Int),AV.sl ((0:Nat)) [] Own.nil],some [AV.str p.src,AV.int IntKind.i64 (1:Int),AV.sl ((0:Nat)) [] Own.nil],some [AV.tup [AV.int IntKind.i64 (100:Int),AV.int IntKind.i64 (0:Int),AV.tup []]]],live:=[] }
 { boxes:=[some [AV.sl ((3:Nat)) (bxsL r) Own.no],some [AV.str p.src,AV.bool p.ack,AV.int IntKind.i64 p.next,AV.str p.fsrc,AV.int IntKind.i64 p.seq,AV.int IntKind.i64 kind,AV.int IntKind.i64 ref,AV.str tab,AV.str key,AV.int IntKind.i64 ev,AV.sl sz es o],some [AV.sl ((0:Nat)) [] Own.nil],some [AV.str [],AV.bool false,AV.int IntKind.i64 (0:Int),AV.str [],AV.int IntKind.i64 (0:Int),AV.int IntKind.i64 (0:Int),AV.int IntKind.i64 (0:Int),AV.str [],AV.str [],AV.int IntKind.i64 (0:Int),AV.sl ((0:Nat)) [] Own.nil],some [AV.str b.src,AV.int IntKind.i64 b.next,AV.sl ((1:Nat)) (intsA b.ahead) Own.no],some [AV.tup [AV.int IntKind.i64 (100:Int),AV.int IntKind.i64 (↑y:Int),AV.tup (mpL (List.take y b.ahead))]]],live:=[] } ∧
 y≤b.ahead.length∧True) ∧
 ∀ (x:Nat),
 x≤b.ahead.length →
 (decide ((↑x:Int) < (↑b.ahead.length:Int)) = true →
 ((0:Int)≤(↑x:Int)∧(↑x:Int) < (↑(intsA b.ahead).length:Int)) ∧
 ∃ (n:Int),
 takeAt PI ((3:Nat)) (intsA b.ahead) (↑x:Int).toNat ((0:Nat)) = some (AV.int IntKind.i64 n) ∧
 True ∧
 KeyIs PI ((3:Nat)) (AV.int IntKind.i64 n) ∧
 ValIs (AV.bool true) ∧
 (0:Int)≤(↑x:Int) ∧
 (↑x:Int) < (70368744177664:Int) ∧
 ∃ (y:Nat),
 ValsAre
 [AV.ptr ((0:Nat)) ((0:Nat)),AV.ptr ((1:Nat)) ((0:Nat)),
 AV.ptr ((2:Nat)) ((0:Nat)),AV.ptr ((3:Nat)) ((0:Nat)),
 AV.int IntKind.i64 p.seq,AV.int IntKind.i64 (↑(lowB r p.src):Int),
 AV.bool true,AV.ptr ((4:Nat)) ((0:Nat)),AV.mp ((5:Nat)),
 AV.sl ((1:Nat)) (intsA b.ahead) Own.no,
 AV.int IntKind.i64 (↑b.ahead.length:Int),
 AV.int IntKind.i64 (IntKind.i64.wrap ((↑x:Int) + (1:Int)))]
 [AV.ptr ((0:Nat)) ((0:Nat)),AV.ptr ((1:Nat)) ((0:Nat)),
 AV.ptr ((2:Nat)) ((0:Nat)),AV.ptr ((3:Nat)) ((0:Nat)),
 AV.int IntKind.i64 p.seq,AV.int IntKind.i64 (↑(lowB r p.src):Int),
 AV.bool true,AV.ptr ((4:Nat)) ((0:Nat)),AV.mp ((5:Nat)),
 AV.sl ((1:Nat)) (intsA b.ahead) Own.no,
 AV.int IntKind.i64 (↑b.ahead.length:Int),AV.int IntKind.i64 (↑y:Int)] ∧
 StIs
 { boxes:=[some [AV.sl ((3:Nat)) (bxsL r) Own.no],some [AV.str p.src,AV.bool p.ack,AV.int IntKind.i64 p.next,AV.str p.fsrc,AV.int IntKind.i64 p.seq,AV.int IntKind.i64 kind,AV.int IntKind.i64 ref,AV.str tab,AV.str key,AV.int IntKind.i64 ev,AV.sl sz es o],some [AV.sl ((0:Nat)) [] Own.nil],some [AV.str [],AV.bool false,AV.int IntKind.i64 (0:Int),AV.str [],AV.int IntKind.i64 (0:Int),AV.int IntKind.i64 (0:Int),AV.int IntKind.i64 (0:Int),AV.str [],AV.str [],AV.int IntKind.i64 (0:Int),AV.sl ((0:Nat)) [] Own.nil],some [AV.str b.src,AV.int IntKind.i64 b.next,AV.sl ((1:Nat)) (intsA b.ahead) Own.no],some [AV.tup [AV.int IntKind.i64 (100:Int),AV.int IntKind.i64 ((↑x:Int) + (1:Int)),AV.tup (keptPutM (mpL (List.take x b.ahead)) (AV.int IntKind.i64 n) (AV.bool true))]]],live:=[] }
 { boxes:=[some [AV.sl ((3:Nat)) (bxsL r) Own.no],some [AV.str p.src,AV.bool p.ack,AV.int IntKind.i64 p.next,AV.str p.fsrc,AV.int IntKind.i64 p.seq,AV.int IntKind.i64 kind,AV.int IntKind.i64 ref,AV.str tab,AV.str key,AV.int IntKind.i64 ev,AV.sl sz es o],some [AV.sl ((0:Nat)) [] Own.nil],some [AV.str [],AV.bool false,AV.int IntKind.i64 (0:Int),AV.str [],AV.int IntKind.i64 (0:Int),AV.int IntKind.i64 (0:Int),AV.int IntKind.i64 (0:Int),AV.str [],AV.str [],AV.int IntKind.i64 (0:Int),AV.sl ((0:Nat)) [] Own.nil],some [AV.str b.src,AV.int IntKind.i64 b.next,AV.sl ((1:Nat)) (intsA b.ahead) Own.no],some [AV.tup [AV.int IntKind.i64 (100:Int),AV.int IntKind.i64 (↑y:Int),AV.tup (mpL (List.take y b.ahead))]]],live:=[] } ∧
 y≤b.ahead.length∧b.ahead.length - y < b.ahead.length - x) ∧
 (decide ((↑x:Int) < (↑b.ahead.length:Int)) = false →
 (decide (p.seq ≥ b.next) = true →
 KeyIs PI ((3:Nat)) (AV.int IntKind.i64 p.seq) ∧
 ∃ (b_2:Bool),
 LookIs (mpL (List.take x b.ahead)) (AV.int IntKind.i64 p.seq) (AV.bool false) (AV.bool b_2) ∧
 (b_2 = true →
 RetIs
 (AV.tup
 [AV.agg [AV.sl ((3:Nat)) (bxsL r) Own.no],AV.bool false,
 AV.agg
 [AV.str p.src,AV.bool true,AV.int IntKind.i64 b.next,AV.str [],
 AV.int IntKind.i64 (0:Int),AV.int IntKind.i64 (0:Int),
 AV.int IntKind.i64 (0:Int),AV.str [],AV.str [],AV.int IntKind.i64 (0:Int),
 AV.sl ((0:Nat)) [] Own.nil],
 AV.int IntKind.i64 (0:Int)])
 [] (recvR (recvP r p))) ∧
 (b_2 = false →
 True ∧
 KeyIs PI ((3:Nat)) (AV.int IntKind.i64 p.seq) ∧
 ValIs (AV.bool true) ∧
 (0:Int)≤(↑x:Int) ∧
 (↑x:Int) < (70368744177664:Int) ∧
 (∃ (y:St21),
 ValsAre
 [AV.ptr ((0:Nat)) ((0:Nat)),AV.ptr ((1:Nat)) ((0:Nat)),
 AV.ptr ((2:Nat)) ((0:Nat)),AV.bool true,
 AV.ptr ((3:Nat)) ((0:Nat)),AV.int IntKind.i64 p.seq,
 AV.int IntKind.i64 (↑(lowB r p.src):Int),AV.bool true,
 AV.ptr ((4:Nat)) ((0:Nat)),AV.mp ((5:Nat))]
 [AV.ptr ((0:Nat)) ((0:Nat)),AV.ptr ((1:Nat)) ((0:Nat)),
 AV.ptr ((2:Nat)) ((0:Nat)),AV.bool true,
 AV.ptr ((3:Nat)) ((0:Nat)),AV.int IntKind.i64 p.seq,
 AV.int IntKind.i64 (↑(lowB r p.src):Int),AV.bool true,
 AV.ptr ((4:Nat)) ((0:Nat)),AV.mp ((5:Nat))] ∧
 StIs
 { boxes:=[some [AV.sl ((3:Nat)) (bxsL r) Own.no],some [AV.str p.src,AV.bool p.ack,AV.int IntKind.i64 p.next,AV.str p.fsrc,AV.int IntKind.i64 p.seq,AV.int IntKind.i64 kind,AV.int IntKind.i64 ref,AV.str tab,AV.str key,AV.int IntKind.i64 ev,AV.sl sz es o],some [AV.sl ((0:Nat)) [] Own.nil],some [AV.str [],AV.bool false,AV.int IntKind.i64 (0:Int),AV.str [],AV.int IntKind.i64 (0:Int),AV.int IntKind.i64 (0:Int),AV.int IntKind.i64 (0:Int),AV.str [],AV.str [],AV.int IntKind.i64 (0:Int),AV.sl ((0:Nat)) [] Own.nil],some [AV.str b.src,AV.int IntKind.i64 b.next,AV.sl ((1:Nat)) (intsA b.ahead) Own.no],some [AV.tup [AV.int IntKind.i64 (100:Int),AV.int IntKind.i64 ((↑x:Int) + (1:Int)),AV.tup (keptPutM (mpL (List.take x b.ahead)) (AV.int IntKind.i64 p.seq) (AV.bool true))]]],live:=[] }
 { boxes:=[some [AV.sl ((3:Nat)) (bxsL r) Own.no],some [AV.str p.src,AV.bool p.ack,AV.int IntKind.i64 p.next,AV.str p.fsrc,AV.int IntKind.i64 p.seq,AV.int IntKind.i64 kind,AV.int IntKind.i64 ref,AV.str tab,AV.str key,AV.int IntKind.i64 ev,AV.sl sz es o],some [AV.sl ((0:Nat)) [] Own.nil],some [AV.str [],AV.bool false,AV.int IntKind.i64 (0:Int),AV.str [],AV.int IntKind.i64 (0:Int),AV.int IntKind.i64 (0:Int),AV.int IntKind.i64 (0:Int),AV.str [],AV.str [],AV.int IntKind.i64 (0:Int),AV.sl ((0:Nat)) [] Own.nil],some [AV.str b.src,AV.int IntKind.i64 y.x,AV.sl ((1:Nat)) (intsA b.ahead) Own.no],some [AV.tup [AV.int IntKind.i64 (100:Int),AV.int IntKind.i64 ((↑b.ahead.length:Int) + (1:Int)),AV.tup (mpL y.l)]]],live:=[] } ∧
 I21 (insI p.seq b.ahead) b.next y∧True) ∧
 ∀ (x:St21),
 I21 (insI p.seq b.ahead) b.next x →
 KeyIs PI ((3:Nat)) (AV.int IntKind.i64 x.x) ∧
 ∃ (b_3:Bool),
 LookIs (mpL x.l) (AV.int IntKind.i64 x.x) (AV.bool false)
 (AV.bool b_3) ∧
 (b_3 = true →
 True ∧
 KeyIs PI ((3:Nat)) (AV.int IntKind.i64 x.x) ∧
 ∃ (y:St21),
 ValsAre
 [AV.ptr ((0:Nat)) ((0:Nat)),
 AV.ptr ((1:Nat)) ((0:Nat)),
 AV.ptr ((2:Nat)) ((0:Nat)),AV.bool true,
 AV.ptr ((3:Nat)) ((0:Nat)),
 AV.int IntKind.i64 p.seq,
 AV.int IntKind.i64 (↑(lowB r p.src):Int),
 AV.bool true,AV.ptr ((4:Nat)) ((0:Nat)),
 AV.mp ((5:Nat))]
 [AV.ptr ((0:Nat)) ((0:Nat)),
 AV.ptr ((1:Nat)) ((0:Nat)),
 AV.ptr ((2:Nat)) ((0:Nat)),AV.bool true,
 AV.ptr ((3:Nat)) ((0:Nat)),
 AV.int IntKind.i64 p.seq,
 AV.int IntKind.i64 (↑(lowB r p.src):Int),
 AV.bool true,AV.ptr ((4:Nat)) ((0:Nat)),
 AV.mp ((5:Nat))] ∧
 StIs
 { boxes:=[some [AV.sl ((3:Nat)) (bxsL r) Own.no],some [AV.str p.src,AV.bool p.ack,AV.int IntKind.i64 p.next,AV.str p.fsrc,AV.int IntKind.i64 p.seq,AV.int IntKind.i64 kind,AV.int IntKind.i64 ref,AV.str tab,AV.str key,AV.int IntKind.i64 ev,AV.sl sz es o],some [AV.sl ((0:Nat)) [] Own.nil],some [AV.str [],AV.bool false,AV.int IntKind.i64 (0:Int),AV.str [],AV.int IntKind.i64 (0:Int),AV.int IntKind.i64 (0:Int),AV.int IntKind.i64 (0:Int),AV.str [],AV.str [],AV.int IntKind.i64 (0:Int),AV.sl ((0:Nat)) [] Own.nil],some [AV.str b.src,AV.int IntKind.i64 (IntKind.i64.wrap (x.x + (1:Int))),AV.sl ((1:Nat)) (intsA b.ahead) Own.no],some [AV.tup [AV.int IntKind.i64 (100:Int),AV.int IntKind.i64 ((↑b.ahead.length:Int) + (1:Int)),AV.tup (keptDelM (mpL x.l) (AV.int IntKind.i64 x.x))]]],live:=[] }
 { boxes:=[some [AV.sl ((3:Nat)) (bxsL r) Own.no],some [AV.str p.src,AV.bool p.ack,AV.int IntKind.i64 p.next,AV.str p.fsrc,AV.int IntKind.i64 p.seq,AV.int IntKind.i64 kind,AV.int IntKind.i64 ref,AV.str tab,AV.str key,AV.int IntKind.i64 ev,AV.sl sz es o],some [AV.sl ((0:Nat)) [] Own.nil],some [AV.str [],AV.bool false,AV.int IntKind.i64 (0:Int),AV.str [],AV.int IntKind.i64 (0:Int),AV.int IntKind.i64 (0:Int),AV.int IntKind.i64 (0:Int),AV.str [],AV.str [],AV.int IntKind.i64 (0:Int),AV.sl ((0:Nat)) [] Own.nil],some [AV.str b.src,AV.int IntKind.i64 y.x,AV.sl ((1:Nat)) (intsA b.ahead) Own.no],some [AV.tup [AV.int IntKind.i64 (100:Int),AV.int IntKind.i64 ((↑b.ahead.length:Int) + (1:Int)),AV.tup (mpL y.l)]]],live:=[] } ∧
 I21 (insI p.seq b.ahead) b.next y ∧
 y.T.length < x.T.length) ∧
 (b_3 = false →
 True ∧
 ((keysZ (mpL x.l)).Nodup ∧
 (↑b.ahead.length:Int) + (1:Int) ≤
 (1000000000000:Int)) ∧
 (bxsL r ≠ [] ∧
 (bxsL r).length * (48:Nat)≤(140737488355328:Nat)) ∧
 ((0:Int)≤(↑(lowB r p.src):Int) ∧
 (↑(lowB r p.src):Int) < (↑(bxsL r).length:Int)) ∧
 (↑(lowB r p.src):Int).toNat < (bxsL r).length ∧
 ((bxsL r).set (↑(lowB r p.src):Int).toNat
 (keptSetC
 ((bxsL r).getD (↑(lowB r p.src):Int).toNat
 AV.junk)
 ((0:Nat))
 [AV.str b.src,AV.int IntKind.i64 x.x,
 AV.sl ((1:Nat))
 (List.map (AV.int IntKind.i64)
 (sortZ (keysZ (mpL x.l))))
 Own.no])).length =
 (bxsL r).length ∧
 RetIs
 (AV.tup
 [AV.agg
 [AV.sl ((3:Nat))
 ((bxsL r).set
 (↑(lowB r p.src):Int).toNat
 (keptSetC
 ((bxsL r).getD
 (↑(lowB r p.src):Int).toNat
 AV.junk)
 ((0:Nat))
 [AV.str b.src,AV.int IntKind.i64 x.x,
 AV.sl ((1:Nat))
 (List.map (AV.int IntKind.i64)
 (sortZ (keysZ (mpL x.l))))
 Own.no]))
 Own.no],
 AV.bool true,
 AV.agg
 [AV.str p.src,AV.bool true,
 AV.int IntKind.i64 x.x,AV.str [],
 AV.int IntKind.i64 (0:Int),
 AV.int IntKind.i64 (0:Int),
 AV.int IntKind.i64 (0:Int),AV.str [],
 AV.str [],AV.int IntKind.i64 (0:Int),
 AV.sl ((0:Nat)) [] Own.nil],
 AV.int IntKind.i64 (0:Int)])
 [] (recvR (recvP r p))))) ∧
 (decide (p.seq ≥ b.next) = false →
 RetIs
 (AV.tup
 [AV.agg [AV.sl ((3:Nat)) (bxsL r) Own.no],AV.bool false,
 AV.agg
 [AV.str p.src,AV.bool true,AV.int IntKind.i64 b.next,AV.str [],
 AV.int IntKind.i64 (0:Int),AV.int IntKind.i64 (0:Int),AV.int IntKind.i64 (0:Int),
 AV.str [],AV.str [],AV.int IntKind.i64 (0:Int),AV.sl ((0:Nat)) [] Own.nil],
 AV.int IntKind.i64 (0:Int)])
 [] (recvR (recvP r p))))))))))) ∧
 (b_1 = false →
 RetIs
 (AV.tup
 [AV.agg [AV.sl ((0:Nat)) [] Own.nil],AV.bool false,
 AV.agg
 [AV.str [],AV.bool false,AV.int IntKind.i64 (0:Int),AV.str [],AV.int IntKind.i64 (0:Int),AV.int IntKind.i64 (0:Int),
 AV.int IntKind.i64 (0:Int),AV.str [],AV.str [],AV.int IntKind.i64 (0:Int),AV.sl ((0:Nat)) [] Own.nil],
 AV.int IntKind.i64 (1:Int)])
 [] (recvR (recvP r p)))))):=by kernel_rfl
theorem w10n (m:Int) (r:List BxI) (p:PkQ) (kind ref ev:Int) (tab key:List UInt8) (sz:Nat) (es:List AV) (o:Own):(pureW PI (GI m) XN (tbl [(27,s27),(28,s28n)]) (itbl [(32,s32),(31,s31),(33,s33n),(34,s34)]) (a10n p kind ref ev tab key (.sl sz es o) (.sl 3 (bxsL r) .no) (lowB r p.src)) [] 10 [.agg [.sl 3 (bxsL r) .no],.agg (pkC p kind ref ev tab key (.sl sz es o))] (recvR (recvP r p))) =
((p.ack = true →
    RetIs
      (AV.tup
        [AV.agg [AV.sl ((0:Nat)) [] Own.nil],AV.bool false,
 AV.agg
 [AV.str [],AV.bool false,AV.int IntKind.i64 (0:Int),AV.str [],AV.int IntKind.i64 (0:Int),AV.int IntKind.i64 (0:Int),
 AV.int IntKind.i64 (0:Int),AV.str [],AV.str [],AV.int IntKind.i64 (0:Int),AV.sl ((0:Nat)) [] Own.nil],
 AV.int IntKind.i64 (1:Int)])
      [] (recvR (recvP r p))) ∧
  (p.ack = false →
    ((p.next != (0:Int)) = true →
        RetIs
 (AV.tup
 [AV.agg [AV.sl ((0:Nat)) [] Own.nil],AV.bool false,
 AV.agg
 [AV.str [],AV.bool false,AV.int IntKind.i64 (0:Int),AV.str [],AV.int IntKind.i64 (0:Int),AV.int IntKind.i64 (0:Int),
 AV.int IntKind.i64 (0:Int),AV.str [],AV.str [],AV.int IntKind.i64 (0:Int),AV.sl ((0:Nat)) [] Own.nil],
 AV.int IntKind.i64 (1:Int)])
 [] (recvR (recvP r p))) ∧
      ((p.next != (0 : Int)) = false →
        ∃ (b:Bool),
 CallIs (tbl [((27:Nat),s27),((28:Nat),s28n)] ((27:Nat)) [AV.str p.src]) (AV.bool b) [] ∧
 (b = true →
 ((!(p.fsrc == p.src && (p.seq == p.seq && true))) = true →
 RetIs
 (AV.tup
 [AV.agg [AV.sl ((0:Nat)) [] Own.nil],AV.bool false,
 AV.agg
 [AV.str [],AV.bool false,AV.int IntKind.i64 (0:Int),AV.str [],AV.int IntKind.i64 (0:Int),AV.int IntKind.i64 (0:Int),
 AV.int IntKind.i64 (0:Int),AV.str [],AV.str [],AV.int IntKind.i64 (0:Int),AV.sl ((0:Nat)) [] Own.nil],
 AV.int IntKind.i64 (1:Int)])
 [] (recvR (recvP r p))) ∧
 ((!(p.fsrc == p.src && (p.seq == p.seq && true))) = false →
 (decide (p.seq < (1:Int)) = true →
 RetIs
 (AV.tup
 [AV.agg [AV.sl ((0:Nat)) [] Own.nil],AV.bool false,
 AV.agg
 [AV.str [],AV.bool false,AV.int IntKind.i64 (0:Int),AV.str [],AV.int IntKind.i64 (0:Int),AV.int IntKind.i64 (0:Int),
 AV.int IntKind.i64 (0:Int),AV.str [],AV.str [],AV.int IntKind.i64 (0:Int),AV.sl ((0:Nat)) [] Own.nil],
 AV.int IntKind.i64 (1:Int)])
 [] (recvR (recvP r p))) ∧
 (decide (p.seq < (1:Int)) = false →
 (decide (p.seq > (1099511627776:Int)) = true →
 RetIs
 (AV.tup
 [AV.agg [AV.sl ((0:Nat)) [] Own.nil],AV.bool false,
 AV.agg
 [AV.str [],AV.bool false,AV.int IntKind.i64 (0:Int),AV.str [],AV.int IntKind.i64 (0:Int),
 AV.int IntKind.i64 (0:Int),AV.int IntKind.i64 (0:Int),AV.str [],AV.str [],AV.int IntKind.i64 (0:Int),
 AV.sl ((0:Nat)) [] Own.nil],
 AV.int IntKind.i64 (1:Int)])
 [] (recvR (recvP r p))) ∧
 (decide (p.seq > (1099511627776:Int)) = false →
 ∃ (n:Int),
 CallIs
 (tbl [((27:Nat),s27),((28:Nat),s28n)] ((28:Nat))
 [AV.sl ((3:Nat)) (bxsL r) Own.no,AV.str p.src,AV.fn ((29:Nat)) []])
 (AV.tup [AV.int IntKind.i64 n,AV.bool false]) [] ∧
 (false = true →
 ((0:Int)≤n∧n < (↑(bxsL r).length:Int)) ∧
 ∃ (s:List UInt8),
 ∃ (n_1:Int),
 ∃ (es_1:List AV),
 takeAt PI ((75:Nat)) (bxsL r) n.toNat ((0:Nat)) =
 some (AV.agg [AV.str s,AV.int IntKind.i64 n_1,AV.sl ((1:Nat)) es_1 Own.no]) ∧
 (decide (p.seq > IntKind.i64.wrap (n_1 + (64:Int))) = true →
 RetIs
 (AV.tup
 [AV.agg [AV.sl ((0:Nat)) [] Own.nil],AV.bool false,
 AV.agg
 [AV.str [],AV.bool false,AV.int IntKind.i64 (0:Int),AV.str [],AV.int IntKind.i64 (0:Int),
 AV.int IntKind.i64 (0:Int),AV.int IntKind.i64 (0:Int),AV.str [],AV.str [],
 AV.int IntKind.i64 (0:Int),AV.sl ((0:Nat)) [] Own.nil],
 AV.int IntKind.i64 (410:Int)])
 [] (recvR (recvP r p))) ∧
 (decide (p.seq > IntKind.i64.wrap (n_1 + (64:Int))) = false →
 (∃ (y:Nat),
 ValsAre
 [AV.ptr ((0:Nat)) ((0:Nat)),AV.ptr ((1:Nat)) ((0:Nat)),AV.ptr ((2:Nat)) ((0:Nat)),
 AV.ptr ((3:Nat)) ((0:Nat)),AV.int IntKind.i64 p.seq,AV.int IntKind.i64 n,AV.bool true,
 AV.ptr ((4:Nat)) ((0:Nat)),AV.mp ((5:Nat)),AV.sl ((1:Nat)) es_1 Own.no,
 AV.int IntKind.i64 (↑es_1.length:Int),AV.int IntKind.i64 (0:Int)]
 [AV.ptr ((0:Nat)) ((0:Nat)),AV.ptr ((1:Nat)) ((0:Nat)),AV.ptr ((2:Nat)) ((0:Nat)),
 AV.ptr ((3:Nat)) ((0:Nat)),AV.int IntKind.i64 p.seq,
 AV.int IntKind.i64 (↑(lowB r p.src):Int),AV.bool false,AV.ptr ((4:Nat)) ((0:Nat)),
 AV.mp ((5:Nat)),AV.sl ((0:Nat)) [] Own.nil,AV.int IntKind.i64 (0:Int),
 AV.int IntKind.i64 (↑y:Int)] ∧
 StIs
 { boxes:=[some [AV.sl ((3:Nat)) (bxsL r) Own.no],some [AV.str p.src,AV.bool p.ack,AV.int IntKind.i64 p.next,AV.str p.fsrc,AV.int IntKind.i64 p.seq,AV.int IntKind.i64 kind,AV.int IntKind.i64 ref,AV.str tab,AV.str key,AV.int IntKind.i64 ev,AV.sl sz es o],some [AV.sl ((0:Nat)) [] Own.nil],some [AV.str [],AV.bool false,AV.int IntKind.i64 (0:Int),AV.str [],AV.int IntKind.i64 (0:Int),AV.int IntKind.i64 (0:Int),AV.int IntKind.i64 (0:Int),AV.str [],AV.str [],AV.int IntKind.i64 (0:Int),AV.sl ((0:Nat)) [] Own.nil],some [AV.str s,AV.int IntKind.i64 n_1,AV.sl ((1:Nat)) es_1 Own.no],some [AV.tup [AV.int IntKind.i64 (100:Int),AV.int IntKind.i64 (0:Int),AV.tup []]]],live:=[] }
 { boxes:=[some [AV.sl ((3:Nat)) (bxsL r) Own.no],some [AV.str p.src,AV.bool p.ack,AV.int IntKind.i64 p.next,AV.str p.fsrc,AV.int IntKind.i64 p.seq,AV.int IntKind.i64 kind,AV.int IntKind.i64 ref,AV.str tab,AV.str key,AV.int IntKind.i64 ev,AV.sl sz es o],some [AV.sl ((0:Nat)) [] Own.nil],some [AV.str [],AV.bool false,AV.int IntKind.i64 (0:Int),AV.str [],AV.int IntKind.i64 (0:Int),AV.int IntKind.i64 (0:Int),AV.int IntKind.i64 (0:Int),AV.str [],AV.str [],AV.int IntKind.i64 (0:Int),AV.sl ((0:Nat)) [] Own.nil],some [AV.str p.src,AV.int IntKind.i64 (1:Int),AV.sl ((0:Nat)) [] Own.nil],some [AV.tup [AV.int IntKind.i64 (100:Int),AV.int IntKind.i64 (↑y:Int),AV.tup (mpL (List.take y []))]]],live:=[] } ∧
 y≤([]:List Int).length∧True) ∧
 ∀ (x:Nat),
 x≤([]:List Int).length →
 (decide ((↑x:Int) < (0:Int)) = true→((0:Int)≤(↑x:Int)∧(↑x:Int) < (0:Int))∧False) ∧
 (decide ((↑x:Int) < (0:Int)) = false →
 (decide (p.seq ≥ (1:Int)) = true →
 KeyIs PI ((3:Nat)) (AV.int IntKind.i64 p.seq) ∧
 ∃ (b:Bool),
 LookIs (mpL (List.take x [])) (AV.int IntKind.i64 p.seq) (AV.bool false) (AV.bool b) ∧
 (b = true →
 RetIs
 (AV.tup
 [AV.agg [AV.sl ((3:Nat)) (bxsL r) Own.no],AV.bool false,
 AV.agg
 [AV.str p.src,AV.bool true,AV.int IntKind.i64 (1:Int),AV.str [],
 AV.int IntKind.i64 (0:Int),AV.int IntKind.i64 (0:Int),
 AV.int IntKind.i64 (0:Int),AV.str [],AV.str [],
 AV.int IntKind.i64 (0:Int),AV.sl ((0:Nat)) [] Own.nil],
 AV.int IntKind.i64 (0:Int)])
 [] (recvR (recvP r p))) ∧
 (b = false →
 True ∧
 KeyIs PI ((3:Nat)) (AV.int IntKind.i64 p.seq) ∧
 ValIs (AV.bool true) ∧
 (0:Int)≤(↑x:Int) ∧
 (↑x:Int) < (70368744177664:Int) ∧
 (∃ (y:St21),
 ValsAre
 [AV.ptr ((0:Nat)) ((0:Nat)),AV.ptr ((1:Nat)) ((0:Nat)),
 AV.ptr ((2:Nat)) ((0:Nat)),AV.bool true,
 AV.ptr ((3:Nat)) ((0:Nat)),AV.int IntKind.i64 p.seq,
 AV.int IntKind.i64 (↑(lowB r p.src):Int),AV.bool false,
 AV.ptr ((4:Nat)) ((0:Nat)),AV.mp ((5:Nat))]
 [AV.ptr ((0:Nat)) ((0:Nat)),AV.ptr ((1:Nat)) ((0:Nat)),
 AV.ptr ((2:Nat)) ((0:Nat)),AV.bool true,
 AV.ptr ((3:Nat)) ((0:Nat)),AV.int IntKind.i64 p.seq,
 AV.int IntKind.i64 (↑(lowB r p.src):Int),AV.bool false,
 AV.ptr ((4:Nat)) ((0:Nat)),AV.mp ((5:Nat))] ∧
 StIs
 { boxes:=[some [AV.sl ((3:Nat)) (bxsL r) Own.no],some [AV.str p.src,AV.bool p.ack,AV.int IntKind.i64 p.next,AV.str p.fsrc,AV.int IntKind.i64 p.seq,AV.int IntKind.i64 kind,AV.int IntKind.i64 ref,AV.str tab,AV.str key,AV.int IntKind.i64 ev,AV.sl sz es o],some [AV.sl ((0:Nat)) [] Own.nil],some [AV.str [],AV.bool false,AV.int IntKind.i64 (0:Int),AV.str [],AV.int IntKind.i64 (0:Int),AV.int IntKind.i64 (0:Int),AV.int IntKind.i64 (0:Int),AV.str [],AV.str [],AV.int IntKind.i64 (0:Int),AV.sl ((0:Nat)) [] Own.nil],some [AV.str p.src,AV.int IntKind.i64 (1:Int),AV.sl ((0:Nat)) [] Own.nil],some [AV.tup [AV.int IntKind.i64 (100:Int),AV.int IntKind.i64 ((↑x:Int) + (1:Int)),AV.tup (keptPutM (mpL (List.take x [])) (AV.int IntKind.i64 p.seq) (AV.bool true))]]],live:=[] }
 { boxes:=[some [AV.sl ((3:Nat)) (bxsL r) Own.no],some [AV.str p.src,AV.bool p.ack,AV.int IntKind.i64 p.next,AV.str p.fsrc,AV.int IntKind.i64 p.seq,AV.int IntKind.i64 kind,AV.int IntKind.i64 ref,AV.str tab,AV.str key,AV.int IntKind.i64 ev,AV.sl sz es o],some [AV.sl ((0:Nat)) [] Own.nil],some [AV.str [],AV.bool false,AV.int IntKind.i64 (0:Int),AV.str [],AV.int IntKind.i64 (0:Int),AV.int IntKind.i64 (0:Int),AV.int IntKind.i64 (0:Int),AV.str [],AV.str [],AV.int IntKind.i64 (0:Int),AV.sl ((0:Nat)) [] Own.nil],some [AV.str p.src,AV.int IntKind.i64 y.x,AV.sl ((0:Nat)) [] Own.nil],some [AV.tup [AV.int IntKind.i64 (100:Int),AV.int IntKind.i64 (1:Int),AV.tup (mpL y.l)]]],live:=[] } ∧
 I21 (insI p.seq []) (1:Int) y∧True) ∧
 ∀ (x:St21),
 I21 (insI p.seq []) (1:Int) x →
 KeyIs PI ((3:Nat)) (AV.int IntKind.i64 x.x) ∧
 ∃ (b:Bool),
 LookIs (mpL x.l) (AV.int IntKind.i64 x.x) (AV.bool false)
 (AV.bool b) ∧
 (b = true →
 True ∧
 KeyIs PI ((3:Nat)) (AV.int IntKind.i64 x.x) ∧
 ∃ (y:St21),
 ValsAre
 [AV.ptr ((0:Nat)) ((0:Nat)),
 AV.ptr ((1:Nat)) ((0:Nat)),
 AV.ptr ((2:Nat)) ((0:Nat)),AV.bool true,
 AV.ptr ((3:Nat)) ((0:Nat)),
 AV.int IntKind.i64 p.seq,
 AV.int IntKind.i64 (↑(lowB r p.src):Int),
 AV.bool false,AV.ptr ((4:Nat)) ((0:Nat)),
 AV.mp ((5:Nat))]
 [AV.ptr ((0:Nat)) ((0:Nat)),
 AV.ptr ((1:Nat)) ((0:Nat)),
 AV.ptr ((2:Nat)) ((0:Nat)),AV.bool true,
 AV.ptr ((3:Nat)) ((0:Nat)),
 AV.int IntKind.i64 p.seq,
 AV.int IntKind.i64 (↑(lowB r p.src):Int),
 AV.bool false,AV.ptr ((4:Nat)) ((0:Nat)),
 AV.mp ((5:Nat))] ∧
 StIs
 { boxes:=[some [AV.sl ((3:Nat)) (bxsL r) Own.no],some [AV.str p.src,AV.bool p.ack,AV.int IntKind.i64 p.next,AV.str p.fsrc,AV.int IntKind.i64 p.seq,AV.int IntKind.i64 kind,AV.int IntKind.i64 ref,AV.str tab,AV.str key,AV.int IntKind.i64 ev,AV.sl sz es o],some [AV.sl ((0:Nat)) [] Own.nil],some [AV.str [],AV.bool false,AV.int IntKind.i64 (0:Int),AV.str [],AV.int IntKind.i64 (0:Int),AV.int IntKind.i64 (0:Int),AV.int IntKind.i64 (0:Int),AV.str [],AV.str [],AV.int IntKind.i64 (0:Int),AV.sl ((0:Nat)) [] Own.nil],some [AV.str p.src,AV.int IntKind.i64 (IntKind.i64.wrap (x.x + (1:Int))),AV.sl ((0:Nat)) [] Own.nil],some [AV.tup [AV.int IntKind.i64 (100:Int),AV.int IntKind.i64 (1:Int),AV.tup (keptDelM (mpL x.l) (AV.int IntKind.i64 x.x))]]],live:=[] }
 { boxes:=[some [AV.sl ((3:Nat)) (bxsL r) Own.no],some [AV.str p.src,AV.bool p.ack,AV.int IntKind.i64 p.next,AV.str p.fsrc,AV.int IntKind.i64 p.seq,AV.int IntKind.i64 kind,AV.int IntKind.i64 ref,AV.str tab,AV.str key,AV.int IntKind.i64 ev,AV.sl sz es o],some [AV.sl ((0:Nat)) [] Own.nil],some [AV.str [],AV.bool false,AV.int IntKind.i64 (0:Int),AV.str [],AV.int IntKind.i64 (0:Int),AV.int IntKind.i64 (0:Int),AV.int IntKind.i64 (0:Int),AV.str [],AV.str [],AV.int IntKind.i64 (0:Int),AV.sl ((0:Nat)) [] Own.nil],some [AV.str p.src,AV.int IntKind.i64 y.x,AV.sl ((0:Nat)) [] Own.nil],some [AV.tup [AV.int IntKind.i64 (100:Int),AV.int IntKind.i64 (1:Int),AV.tup (mpL y.l)]]],live:=[] } ∧
 I21 (insI p.seq []) (1:Int) y ∧
 y.T.length < x.T.length) ∧
 (b = false →
 True ∧
 ((keysZ (mpL x.l)).Nodup ∧
 (1:Int)≤(1000000000000:Int)) ∧
 (bxsL r ≠ [] ∧
 (bxsL r).length * (48:Nat) ≤
 (140737488355328:Nat)) ∧
 ((bxsL r).length = (bxsL r).length ∧
 (0:Int)≤(↑(lowB r p.src):Int) ∧
 (↑(lowB r p.src):Int) ≤
 (↑(bxsL r).length:Int) ∧
 ((bxsL r).length + (1:Nat)) * (48:Nat) ≤
 (140737488355328:Nat) ∧
 (0:Nat) < (bxsL r).length) ∧
 RetIs
 (AV.tup
 [AV.agg
 [AV.sl ((3:Nat))
 (List.take (↑(lowB r p.src):Int).toNat
 (bxsL r) ++
 [AV.agg
 [AV.str p.src,
 AV.int IntKind.i64 x.x,
 AV.sl ((1:Nat))
 (List.map
 (AV.int IntKind.i64)
 (sortZ (keysZ (mpL x.l))))
 Own.no]] ++
 List.drop
 (↑(lowB r p.src):Int).toNat
 (bxsL r))
 Own.no],
 AV.bool true,
 AV.agg
 [AV.str p.src,AV.bool true,
 AV.int IntKind.i64 x.x,AV.str [],
 AV.int IntKind.i64 (0:Int),
 AV.int IntKind.i64 (0:Int),
 AV.int IntKind.i64 (0:Int),AV.str [],
 AV.str [],AV.int IntKind.i64 (0:Int),
 AV.sl ((0:Nat)) [] Own.nil],
 AV.int IntKind.i64 (0:Int)])
 [] (recvR (recvP r p))))) ∧
 (decide (p.seq ≥ (1:Int)) = false →
 RetIs
 (AV.tup
 [AV.agg [AV.sl ((3:Nat)) (bxsL r) Own.no],AV.bool false,
 AV.agg
 [AV.str p.src,AV.bool true,AV.int IntKind.i64 (1:Int),AV.str [],
 AV.int IntKind.i64 (0:Int),AV.int IntKind.i64 (0:Int),
 AV.int IntKind.i64 (0:Int),AV.str [],AV.str [],AV.int IntKind.i64 (0:Int),
 AV.sl ((0:Nat)) [] Own.nil],
 AV.int IntKind.i64 (0:Int)])
 [] (recvR (recvP r p)))))) ∧
 (false = false →
 (decide ((↑(bxsL r).length:Int) ≥ (16:Int)) = true →
 RetIs
 (AV.tup
 [AV.agg [AV.sl ((0:Nat)) [] Own.nil],AV.bool false,
 AV.agg
 [AV.str [],AV.bool false,AV.int IntKind.i64 (0:Int),AV.str [],AV.int IntKind.i64 (0:Int),
 AV.int IntKind.i64 (0:Int),AV.int IntKind.i64 (0:Int),AV.str [],AV.str [],
 AV.int IntKind.i64 (0:Int),AV.sl ((0:Nat)) [] Own.nil],
 AV.int IntKind.i64 (2:Int)])
 [] (recvR (recvP r p))) ∧
 (decide ((↑(bxsL r).length:Int) ≥ (16:Int)) = false →
 (decide (p.seq > (65:Int)) = true →
 RetIs
 (AV.tup
 [AV.agg [AV.sl ((0:Nat)) [] Own.nil],AV.bool false,
 AV.agg
 [AV.str [],AV.bool false,AV.int IntKind.i64 (0:Int),AV.str [],AV.int IntKind.i64 (0:Int),
 AV.int IntKind.i64 (0:Int),AV.int IntKind.i64 (0:Int),AV.str [],AV.str [],
 AV.int IntKind.i64 (0:Int),AV.sl ((0:Nat)) [] Own.nil],
 AV.int IntKind.i64 (410:Int)])
 [] (recvR (recvP r p))) ∧
 (decide (p.seq > (65:Int)) = false →
 (∃ (y:Nat),
 ValsAre
 [AV.ptr ((0:Nat)) ((0:Nat)),AV.ptr ((1:Nat)) ((0:Nat)),AV.ptr ((2:Nat)) ((0:Nat)),
 AV.ptr ((3:Nat)) ((0:Nat)),AV.int IntKind.i64 p.seq,AV.int IntKind.i64 n,AV.bool false,
 AV.ptr ((4:Nat)) ((0:Nat)),AV.mp ((5:Nat)),AV.sl ((0:Nat)) [] Own.nil,
 AV.int IntKind.i64 (0:Int),AV.int IntKind.i64 (0:Int)]
 [AV.ptr ((0:Nat)) ((0:Nat)),AV.ptr ((1:Nat)) ((0:Nat)),AV.ptr ((2:Nat)) ((0:Nat)),
 AV.ptr ((3:Nat)) ((0:Nat)),AV.int IntKind.i64 p.seq,AV.int IntKind.i64 (↑(lowB r p.src):Int),
 AV.bool false,AV.ptr ((4:Nat)) ((0:Nat)),AV.mp ((5:Nat)),AV.sl ((0:Nat)) [] Own.nil,
 AV.int IntKind.i64 (0:Int),AV.int IntKind.i64 (↑y:Int)] ∧
 StIs
 { boxes:=[some [AV.sl ((3:Nat)) (bxsL r) Own.no],some [AV.str p.src,AV.bool p.ack,AV.int IntKind.i64 p.next,AV.str p.fsrc,AV.int IntKind.i64 p.seq,AV.int IntKind.i64 kind,AV.int IntKind.i64 ref,AV.str tab,AV.str key,AV.int IntKind.i64 ev,AV.sl sz es o],some [AV.sl ((0:Nat)) [] Own.nil],some [AV.str [],AV.bool false,AV.int IntKind.i64 (0:Int),AV.str [],AV.int IntKind.i64 (0:Int),AV.int IntKind.i64 (0:Int),AV.int IntKind.i64 (0:Int),AV.str [],AV.str [],AV.int IntKind.i64 (0:Int),AV.sl ((0:Nat)) [] Own.nil],some [AV.str p.src,AV.int IntKind.i64 (1:Int),AV.sl ((0:Nat)) [] Own.nil],some [AV.tup [AV.int IntKind.i64 (100:Int),AV.int IntKind.i64 (0:Int),AV.tup []]]],live:=[] }
 { boxes:=[some [AV.sl ((3:Nat)) (bxsL r) Own.no],some [AV.str p.src,AV.bool p.ack,AV.int IntKind.i64 p.next,AV.str p.fsrc,AV.int IntKind.i64 p.seq,AV.int IntKind.i64 kind,AV.int IntKind.i64 ref,AV.str tab,AV.str key,AV.int IntKind.i64 ev,AV.sl sz es o],some [AV.sl ((0:Nat)) [] Own.nil],some [AV.str [],AV.bool false,AV.int IntKind.i64 (0:Int),AV.str [],AV.int IntKind.i64 (0:Int),AV.int IntKind.i64 (0:Int),AV.int IntKind.i64 (0:Int),AV.str [],AV.str [],AV.int IntKind.i64 (0:Int),AV.sl ((0:Nat)) [] Own.nil],some [AV.str p.src,AV.int IntKind.i64 (1:Int),AV.sl ((0:Nat)) [] Own.nil],some [AV.tup [AV.int IntKind.i64 (100:Int),AV.int IntKind.i64 (↑y:Int),AV.tup (mpL (List.take y []))]]],live:=[] } ∧
 y≤([]:List Int).length∧True) ∧
 ∀ (x:Nat),
 x≤([]:List Int).length →
 (decide ((↑x:Int) < (0:Int)) = true→((0:Int)≤(↑x:Int)∧(↑x:Int) < (0:Int))∧False) ∧
 (decide ((↑x:Int) < (0:Int)) = false →
 (decide (p.seq ≥ (1:Int)) = true →
 KeyIs PI ((3:Nat)) (AV.int IntKind.i64 p.seq) ∧
 ∃ (b:Bool),
 LookIs (mpL (List.take x [])) (AV.int IntKind.i64 p.seq) (AV.bool false) (AV.bool b) ∧
 (b = true →
 RetIs
 (AV.tup
 [AV.agg [AV.sl ((3:Nat)) (bxsL r) Own.no],AV.bool false,
 AV.agg
 [AV.str p.src,AV.bool true,AV.int IntKind.i64 (1:Int),AV.str [],
 AV.int IntKind.i64 (0:Int),AV.int IntKind.i64 (0:Int),
 AV.int IntKind.i64 (0:Int),AV.str [],AV.str [],AV.int IntKind.i64 (0:Int),
 AV.sl ((0:Nat)) [] Own.nil],
 AV.int IntKind.i64 (0:Int)])
 [] (recvR (recvP r p))) ∧
 (b = false →
 True ∧
 KeyIs PI ((3:Nat)) (AV.int IntKind.i64 p.seq) ∧
 ValIs (AV.bool true) ∧
 (0:Int)≤(↑x:Int) ∧
 (↑x:Int) < (70368744177664:Int) ∧
 (∃ (y:St21),
 ValsAre
 [AV.ptr ((0:Nat)) ((0:Nat)),AV.ptr ((1:Nat)) ((0:Nat)),
 AV.ptr ((2:Nat)) ((0:Nat)),AV.bool true,
 AV.ptr ((3:Nat)) ((0:Nat)),AV.int IntKind.i64 p.seq,
 AV.int IntKind.i64 (↑(lowB r p.src):Int),AV.bool false,
 AV.ptr ((4:Nat)) ((0:Nat)),AV.mp ((5:Nat))]
 [AV.ptr ((0:Nat)) ((0:Nat)),AV.ptr ((1:Nat)) ((0:Nat)),
 AV.ptr ((2:Nat)) ((0:Nat)),AV.bool true,
 AV.ptr ((3:Nat)) ((0:Nat)),AV.int IntKind.i64 p.seq,
 AV.int IntKind.i64 (↑(lowB r p.src):Int),AV.bool false,
 AV.ptr ((4:Nat)) ((0:Nat)),AV.mp ((5:Nat))] ∧
 StIs
 { boxes:=[some [AV.sl ((3:Nat)) (bxsL r) Own.no],some [AV.str p.src,AV.bool p.ack,AV.int IntKind.i64 p.next,AV.str p.fsrc,AV.int IntKind.i64 p.seq,AV.int IntKind.i64 kind,AV.int IntKind.i64 ref,AV.str tab,AV.str key,AV.int IntKind.i64 ev,AV.sl sz es o],some [AV.sl ((0:Nat)) [] Own.nil],some [AV.str [],AV.bool false,AV.int IntKind.i64 (0:Int),AV.str [],AV.int IntKind.i64 (0:Int),AV.int IntKind.i64 (0:Int),AV.int IntKind.i64 (0:Int),AV.str [],AV.str [],AV.int IntKind.i64 (0:Int),AV.sl ((0:Nat)) [] Own.nil],some [AV.str p.src,AV.int IntKind.i64 (1:Int),AV.sl ((0:Nat)) [] Own.nil],some [AV.tup [AV.int IntKind.i64 (100:Int),AV.int IntKind.i64 ((↑x:Int) + (1:Int)),AV.tup (keptPutM (mpL (List.take x [])) (AV.int IntKind.i64 p.seq) (AV.bool true))]]],live:=[] }
 { boxes:=[some [AV.sl ((3:Nat)) (bxsL r) Own.no],some [AV.str p.src,AV.bool p.ack,AV.int IntKind.i64 p.next,AV.str p.fsrc,AV.int IntKind.i64 p.seq,AV.int IntKind.i64 kind,AV.int IntKind.i64 ref,AV.str tab,AV.str key,AV.int IntKind.i64 ev,AV.sl sz es o],some [AV.sl ((0:Nat)) [] Own.nil],some [AV.str [],AV.bool false,AV.int IntKind.i64 (0:Int),AV.str [],AV.int IntKind.i64 (0:Int),AV.int IntKind.i64 (0:Int),AV.int IntKind.i64 (0:Int),AV.str [],AV.str [],AV.int IntKind.i64 (0:Int),AV.sl ((0:Nat)) [] Own.nil],some [AV.str p.src,AV.int IntKind.i64 y.x,AV.sl ((0:Nat)) [] Own.nil],some [AV.tup [AV.int IntKind.i64 (100:Int),AV.int IntKind.i64 (1:Int),AV.tup (mpL y.l)]]],live:=[] } ∧
 I21 (insI p.seq []) (1:Int) y∧True) ∧
 ∀ (x:St21),
 I21 (insI p.seq []) (1:Int) x →
 KeyIs PI ((3:Nat)) (AV.int IntKind.i64 x.x) ∧
 ∃ (b:Bool),
 LookIs (mpL x.l) (AV.int IntKind.i64 x.x) (AV.bool false) (AV.bool b) ∧
 (b = true →
 True ∧
 KeyIs PI ((3:Nat)) (AV.int IntKind.i64 x.x) ∧
 ∃ (y:St21),
 ValsAre
 [AV.ptr ((0:Nat)) ((0:Nat)),
 AV.ptr ((1:Nat)) ((0:Nat)),
 AV.ptr ((2:Nat)) ((0:Nat)),AV.bool true,
 AV.ptr ((3:Nat)) ((0:Nat)),
 AV.int IntKind.i64 p.seq,
 AV.int IntKind.i64 (↑(lowB r p.src):Int),
 AV.bool false,AV.ptr ((4:Nat)) ((0:Nat)),
 AV.mp ((5:Nat))]
 [AV.ptr ((0:Nat)) ((0:Nat)),
 AV.ptr ((1:Nat)) ((0:Nat)),
 AV.ptr ((2:Nat)) ((0:Nat)),AV.bool true,
 AV.ptr ((3:Nat)) ((0:Nat)),
 AV.int IntKind.i64 p.seq,
 AV.int IntKind.i64 (↑(lowB r p.src):Int),
 AV.bool false,AV.ptr ((4:Nat)) ((0:Nat)),
 AV.mp ((5:Nat))] ∧
 StIs
 { boxes:=[some [AV.sl ((3:Nat)) (bxsL r) Own.no],some [AV.str p.src,AV.bool p.ack,AV.int IntKind.i64 p.next,AV.str p.fsrc,AV.int IntKind.i64 p.seq,AV.int IntKind.i64 kind,AV.int IntKind.i64 ref,AV.str tab,AV.str key,AV.int IntKind.i64 ev,AV.sl sz es o],some [AV.sl ((0:Nat)) [] Own.nil],some [AV.str [],AV.bool false,AV.int IntKind.i64 (0:Int),AV.str [],AV.int IntKind.i64 (0:Int),AV.int IntKind.i64 (0:Int),AV.int IntKind.i64 (0:Int),AV.str [],AV.str [],AV.int IntKind.i64 (0:Int),AV.sl ((0:Nat)) [] Own.nil],some [AV.str p.src,AV.int IntKind.i64 (IntKind.i64.wrap (x.x + (1:Int))),AV.sl ((0:Nat)) [] Own.nil],some [AV.tup [AV.int IntKind.i64 (100:Int),AV.int IntKind.i64 (1:Int),AV.tup (keptDelM (mpL x.l) (AV.int IntKind.i64 x.x))]]],live:=[] }
 { boxes:=[some [AV.sl ((3:Nat)) (bxsL r) Own.no],some [AV.str p.src,AV.bool p.ack,AV.int IntKind.i64 p.next,AV.str p.fsrc,AV.int IntKind.i64 p.seq,AV.int IntKind.i64 kind,AV.int IntKind.i64 ref,AV.str tab,AV.str key,AV.int IntKind.i64 ev,AV.sl sz es o],some [AV.sl ((0:Nat)) [] Own.nil],some [AV.str [],AV.bool false,AV.int IntKind.i64 (0:Int),AV.str [],AV.int IntKind.i64 (0:Int),AV.int IntKind.i64 (0:Int),AV.int IntKind.i64 (0:Int),AV.str [],AV.str [],AV.int IntKind.i64 (0:Int),AV.sl ((0:Nat)) [] Own.nil],some [AV.str p.src,AV.int IntKind.i64 y.x,AV.sl ((0:Nat)) [] Own.nil],some [AV.tup [AV.int IntKind.i64 (100:Int),AV.int IntKind.i64 (1:Int),AV.tup (mpL y.l)]]],live:=[] } ∧
 I21 (insI p.seq []) (1:Int) y ∧
 y.T.length < x.T.length) ∧
 (b = false →
 True ∧
 ((keysZ (mpL x.l)).Nodup∧(1:Int)≤(1000000000000:Int)) ∧
 (bxsL r ≠ [] ∧
 (bxsL r).length * (48:Nat)≤(140737488355328:Nat)) ∧
 ((bxsL r).length = (bxsL r).length ∧
 (0:Int)≤(↑(lowB r p.src):Int) ∧
 (↑(lowB r p.src):Int)≤(↑(bxsL r).length:Int) ∧
 ((bxsL r).length + (1:Nat)) * (48:Nat) ≤
 (140737488355328:Nat) ∧
 (0:Nat) < (bxsL r).length) ∧
 RetIs
 (AV.tup
 [AV.agg
 [AV.sl ((3:Nat))
 (List.take (↑(lowB r p.src):Int).toNat
 (bxsL r) ++
 [AV.agg
 [AV.str p.src,AV.int IntKind.i64 x.x,
 AV.sl ((1:Nat))
 (List.map (AV.int IntKind.i64)
 (sortZ (keysZ (mpL x.l))))
 Own.no]] ++
 List.drop (↑(lowB r p.src):Int).toNat
 (bxsL r))
 Own.no],
 AV.bool true,
 AV.agg
 [AV.str p.src,AV.bool true,
 AV.int IntKind.i64 x.x,AV.str [],
 AV.int IntKind.i64 (0:Int),
 AV.int IntKind.i64 (0:Int),
 AV.int IntKind.i64 (0:Int),AV.str [],
 AV.str [],AV.int IntKind.i64 (0:Int),
 AV.sl ((0:Nat)) [] Own.nil],
 AV.int IntKind.i64 (0:Int)])
 [] (recvR (recvP r p))))) ∧
 (decide (p.seq ≥ (1:Int)) = false →
 RetIs
 (AV.tup
 [AV.agg [AV.sl ((3:Nat)) (bxsL r) Own.no],AV.bool false,
 AV.agg
 [AV.str p.src,AV.bool true,AV.int IntKind.i64 (1:Int),AV.str [],
 AV.int IntKind.i64 (0:Int),AV.int IntKind.i64 (0:Int),AV.int IntKind.i64 (0:Int),
 AV.str [],AV.str [],AV.int IntKind.i64 (0:Int),AV.sl ((0:Nat)) [] Own.nil],
 AV.int IntKind.i64 (0:Int)])
 [] (recvR (recvP r p))))))))))) ∧
 (b = false →
 RetIs
 (AV.tup
 [AV.agg [AV.sl ((0:Nat)) [] Own.nil],AV.bool false,
 AV.agg
 [AV.str [],AV.bool false,AV.int IntKind.i64 (0:Int),AV.str [],AV.int IntKind.i64 (0:Int),AV.int IntKind.i64 (0:Int),
 AV.int IntKind.i64 (0:Int),AV.str [],AV.str [],AV.int IntKind.i64 (0:Int),AV.sl ((0:Nat)) [] Own.nil],
 AV.int IntKind.i64 (1:Int)])
 [] (recvR (recvP r p)))))):=by kernel_rfl
end Go.Abs
namespace Go.Abs
open Go.Proofs Go.RowKit
theorem lookM_mp {x:Int}:∀ {l:List Int},lookM (mpL l) (.int .i64 x) = if x ∈ l then some (.bool true) else none
 | []=>rfl
 | y :: l=>by
  have ih:=lookM_mp (x:=x) (l:=l)
  by_cases h:y = x
  ·subst h; simp [lookM,keyEq]
  ·have h':¬ x = y:=fun e=>h e.symm
   simp only [mpL,List.map_cons,lookM]
   rw [if_neg (by simpa [keyEq] using h)]
   rw [show lookM (l.map fun x=>AV.tup [.int .i64 x,.bool true]) (.int .i64 x) = _ from ih]
   simp [h']
theorem putM_mp {x:Int}:∀ {l:List Int},x ∉ l→keptPutM (mpL l) (.int .i64 x) (.bool true) = mpL (l ++ [x])
 | [],_=>rfl
 | y :: l,h=>by
  have hy:¬ y = x:=fun e=>h (by simp [e])
  have ih:=putM_mp (x:=x) (l:=l) fun h'=>h (by simp [h'])
  simp only [mpL,List.map_cons,keptPutM,List.cons_append]
  rw [if_neg (by simpa [keyEq] using hy)]
  rw [show keptPutM (l.map fun x=>AV.tup [.int .i64 x,.bool true]) (.int .i64 x) (.bool true) = _ from ih]
theorem delM_mp {x:Int}:∀ {l:List Int},keptDelM (mpL l) (.int .i64 x) = mpL (l.filter fun y=>decide (y ≠ x))
 | []=>rfl
 | y :: l=>by
  have ih:=delM_mp (x:=x) (l:=l)
  simp only [mpL,List.map_cons,keptDelM]
  by_cases h:y = x
  ·rw [if_pos (by simpa [keyEq] using h),List.filter_cons_of_neg (by simpa using h)]
   exact ih
  ·rw [if_neg (by simpa [keyEq] using h),List.filter_cons_of_pos (by simpa using h)]
   rw [show keptDelM (l.map fun x=>AV.tup [.int .i64 x,.bool true]) (.int .i64 x) = _ from ih]
   rfl
theorem keysZ_mp:∀ l:List Int,keysZ (mpL l) = l
 | []=>rfl
 | x :: l=>by
  have:=keysZ_mp l
  simp only [mpL,List.map_cons,keysZ]
  rw [show keysZ (l.map fun x=>AV.tup [.int .i64 x,.bool true]) = l from this]
theorem mem_insI {n y:Int}:∀ {l:List Int},y ∈ insI n l ↔ y = n∨y ∈ l
 | []=>by simp [insI]
 | x :: l=>by
  simp only [insI]
  split
  ·simp
  ·simp [mem_insI (l:=l)]
   constructor
   ·rintro (h | h | h) <;> simp [h]
   ·rintro (h | h | h) <;> simp [h]
theorem insI_sorted {n:Int}:∀ {l:List Int},l.Pairwise (· < ·)→n ∉ l→(insI n l).Pairwise (· < ·)
 | [],_,_=>by simp [insI]
 | x :: l,h,hn=>by
  obtain ⟨h1,h2⟩:=List.pairwise_cons.1 h
  simp only [insI]
  split
  ·rename_i hlt
   refine List.pairwise_cons.2 ⟨fun y hy=>?_,h⟩
   rcases List.mem_cons.1 hy with rfl | hy
   ·exact hlt
   ·have:=h1 y hy; omega
  ·rename_i hlt
   have hne:n ≠ x:=fun e=>hn (by simp [e])
   refine List.pairwise_cons.2 ⟨fun y hy=>?_,insI_sorted h2 fun h'=>hn (by simp [h'])⟩
   rcases mem_insI.1 hy with rfl | hy
   ·omega
   ·exact h1 y hy
theorem insI_len (n:Int):∀ l:List Int,(insI n l).length = l.length + 1
 | []=>rfl
 | x :: l=>by
  simp only [insI]
  split
  ·simp
  ·simp [insI_len n l]
theorem sortZ_of {l T:List Int} (hl:l.Nodup) (hT:T.Pairwise (· < ·)) (h:∀ y,y ∈ l ↔ y ∈ T):sortZ l = T:=by
 have hTn:T.Nodup:=hT.imp fun h=>by omega
 have hp:(sortZ l).Perm T:=(sortZ_perm l).trans ((List.perm_ext_iff_of_nodup hl hTn).2 h)
 refine List.Perm.eq_of_pairwise (le:=fun a b=>Go.leI a b = true) (fun a b _ _ h1 h2=>?_) (sortZ_sorted l) (hT.imp fun h=>by simp only [Go.leI,decide_eq_true_eq]; omega) hp
 simp only [Go.leI,decide_eq_true_eq] at h1 h2
 omega
theorem key_i64 {x:Int} (h0:-9223372036854775808≤x) (h1:x≤9223372036854775807):KeyIs PI 3 (.int .i64 x):=⟨by
 have hk:PI.underlying 3 = some (.int .i64):=by kernel_rfl
 rw [keyL_i64 hk (by simp [Lit.wf,IntKind.min,IntKind.max,IntKind.signed,IntKind.bits]; omega)]; rfl⟩
theorem val_true:ValIs (.bool true):=⟨rfl⟩
theorem agg3:aggA PI 3 = some false:=by kernel_rfl
theorem size3:(sizeA PI 3).isSome = true:=by kernel_rfl
theorem take_i {l:List Int} {i:Nat} (h:i < l.length):takeAt PI 3 (intsA l) i 0 = some (.int .i64 l[i]):=take_one agg3 size3 (by rw [List.getElem?_map,List.getElem?_eq_getElem h]; rfl) rfl
theorem I21_step {S:List Int} {x0:Int} {m:St21} (h:I21 S x0 m) (hx:m.x ∈ m.l):∃ T',m.T = m.x :: T'∧I21 S x0 ⟨m.l.filter fun y=>decide (y ≠ m.x),m.x + 1,T'⟩:=by
 obtain ⟨h1,h2,h3,h4,h5,h6,h7⟩:=h
 have hT:=(h2 _).1 hx
 match hm:m.T,hT with
 | [],hT=>cases hT
 | y :: T',hT =>
  rw [hm] at h3 h4
  obtain ⟨k1,k2⟩:=List.pairwise_cons.1 h3
  have hy:y = m.x:=by
   rcases List.mem_cons.1 hT with e | e
   ·exact e.symm
   ·have:=k1 _ e
    have:=h4 y (by simp); omega
  refine ⟨T',by rw [hy],h1.filter _,fun z=>?_,k2,fun z hz=>?_,?_,?_,?_⟩
  ·simp only [List.mem_filter,h2,hm,List.mem_cons,hy,decide_eq_true_eq]
   constructor
   ·rintro ⟨e | e,hne⟩
    ·exact absurd e hne
    ·exact e
   ·intro e
    have:=k1 z e
    exact ⟨.inr e,by omega⟩
  ·have:=k1 z hz
   simp only; omega
  ·simp only
   rw [← h5,hm,runS,if_pos hy]
  ·simp only; omega
  ·simp only
   rw [hm] at h7
   simp at h7; omega
theorem I21_end {S:List Int} {x0:Int} {m:St21} (h:I21 S x0 m) (hx:m.x ∉ m.l):runS S x0 = (m.x,m.T)∧sortZ (keysZ (mpL m.l)) = m.T:=by
 obtain ⟨h1,h2,h3,h4,h5,h6,h7⟩:=h
 refine ⟨?_,by rw [keysZ_mp]; exact sortZ_of h1 h3 h2⟩
 rw [← h5]
 cases hT:m.T with
 | nil=>rfl
 | cons y T =>
  have:¬ y = m.x:=fun e=>hx ((h2 _).2 (by rw [hT,← e]; simp))
  rw [runS,if_neg this]
theorem I21_start {ahead:List Int} {n x0:Int} (hs:ahead.Pairwise (· < ·)) (hb:∀ x ∈ ahead,x0 < x) (hn:n ∉ ahead) (hx:x0≤n) (h0:-4611686018427387904≤x0) (h1:x0 + (ahead.length + 1:Nat)≤4611686018427387904):I21 (insI n ahead) x0 ⟨ahead ++ [n],x0,insI n ahead⟩:=by
 refine ⟨?_,fun y=>?_,insI_sorted hs hn,fun y hy=>?_,rfl,h0,?_⟩
 ·refine List.nodup_append.2 ⟨hs.imp fun h=>by omega,by simp,fun a ha b hb'=>?_⟩
  simp at hb'; subst hb'
  exact fun e=>hn (e ▸ ha)
 ·simp only [List.mem_append,List.mem_singleton,mem_insI]
  exact Or.comm
 ·rcases mem_insI.1 hy with rfl | hy
  ·exact hx
  ·have:=hb y hy
   simp only; omega
 ·simp only
  rw [insI_len]; exact h1
theorem badP_of {p:PkQ} (h1:p.ack = false) (h2:(p.next != 0) = false) (h3:nameR p.src = true) (h4:(!(p.fsrc == p.src && (p.seq == p.seq && true))) = false) (h5:decide (p.seq < 1) = false) (h6:decide (p.seq > 1099511627776) = false):badP p = false:=by
 have h4':(p.fsrc != p.src) = false:=by simpa using h4
 simp [badP,h1,h2,h3,h4',h5]
 have:=of_decide_eq_false h6
 unfold maxT; omega
theorem tbl_hit {f:FuncId} {s:Spec} {l:List (FuncId × Spec)} {args:List AV}:tbl ((f,s) :: l) f args = s args:=by simp [tbl]
theorem tbl_miss {f g:FuncId} {s:Spec} {l:List (FuncId × Spec)} {args:List AV} (h:¬ f = g):tbl ((g,s) :: l) f args = tbl l f args:=by simp [tbl,h]
theorem c27 {s:List UInt8} {l:List (FuncId × Spec)} (h:s.length≤2000000):tbl ((27,s27) :: l) 27 [.str s] = some (.bool (nameR s),[]):=by
 rw [tbl_hit]; simp only [s27]; rw [if_pos (by omega)]
theorem c28f {r:List BxI} {t:List UInt8} {l:List (FuncId × Spec)} (hs:srcLt r = true) (hl:r.length≤2000000) (ho:oldB r t = true):tbl ((27,s27) :: (28,s28f) :: l) 28 [.sl 3 (bxsL r) .no,.str t,.fn 29 []] = some (.tup [.int .i64 (lowB r t),.bool true],[]):=by
 rw [tbl_miss (by decide),tbl_hit]
 simp only [s28f,if_true,unBs_ok]
 rw [if_pos ⟨hs,hl,ho⟩]
theorem c28n {r:List BxI} {t:List UInt8} {l:List (FuncId × Spec)} (hs:srcLt r = true) (hl:r.length≤2000000) (ho:oldB r t = false):tbl ((27,s27) :: (28,s28n) :: l) 28 [.sl 3 (bxsL r) .no,.str t,.fn 29 []] = some (.tup [.int .i64 (lowB r t),.bool false],[]):=by
 rw [tbl_miss (by decide),tbl_hit]
 simp only [s28n,if_true,unBs_ok]
 rw [if_pos ⟨hs,hl,ho⟩]
theorem ret_bad {r:List BxI} {p:PkQ} (h:badP p = true):RetIs (.tup [rcZ,.bool false,.agg zeroPC,.int .i64 1]) [] (recvR (recvP r p)):=⟨by simp only [recvP,h,if_true]; rfl⟩
theorem old_at {r:List BxI} {t:List UInt8} (h:oldB r t = true):∃ hl:lowB r t < r.length,(r[lowB r t]).src = t:=by
 unfold oldB at h
 cases hr:r[lowB r t]? with
 | none=>rw [hr] at h; cases h
 | some b =>
  rw [hr] at h
  obtain ⟨hl,e⟩:=List.getElem?_eq_some_iff.1 hr
  exact ⟨hl,by rw [e]; simpa using h⟩
structure BoxP (b:BxI):Prop where
 name:nameR b.src = true
 lo:1≤b.next
 hi:b.next≤maxT + 1
 asc:b.ahead.Pairwise (· < ·)
 all:∀ x ∈ b.ahead,b.next < x∧x≤b.next + 64∧x≤maxT
theorem boxOk_iff {b:BxI}:boxOk b = true ↔ BoxP b:=by
 simp only [boxOk,Bool.and_eq_true,decide_eq_true_eq,List.all_eq_true]
 exact ⟨fun ⟨⟨⟨⟨h1,h2⟩,h3⟩,h4⟩,h5⟩=>⟨h1,h2,h3,h4,fun x hx=>⟨(h5 x hx).1.1,(h5 x hx).1.2,(h5 x hx).2⟩⟩,fun h=>⟨⟨⟨⟨h.name,h.lo⟩,h.hi⟩,h.asc⟩,fun x hx=>⟨⟨(h.all x hx).1,(h.all x hx).2.1⟩,(h.all x hx).2.2⟩⟩⟩
theorem asc_len:∀ {l:List Int} {a b:Int},l.Pairwise (· < ·)→(∀ x ∈ l,a < x∧x≤b)→(l.length:Int)≤max 0 (b - a)
 | [],_,_,_,_=>by simp; omega
 | x :: l,a,b,h,hb=>by
  obtain ⟨h1,h2⟩:=List.pairwise_cons.1 h
  have:=asc_len (a:=x) (b:=b) h2 fun y hy=>⟨h1 y hy,(hb y (by simp [hy])).2⟩
  have:=hb x (by simp)
  simp; omega
theorem BoxP.len {b:BxI} (h:BoxP b):b.ahead.length≤64:=by
 have:=asc_len (a:=b.next) (b:=b.next + 64) h.asc fun x hx=>⟨(h.all x hx).1,(h.all x hx).2.1⟩
 omega
theorem nodup_take {l:List Int} (h:l.Pairwise (· < ·)) {k:Nat} (hk:k < l.length):l[k] ∉ l.take k:=fun hm=>by
 obtain ⟨i,hi,e⟩:=List.mem_iff_getElem.1 hm
 have hik:i < k:=by rw [List.length_take] at hi; omega
 rw [List.getElem_take] at e
 have:=List.pairwise_iff_getElem.1 h i k (by omega) hk hik
 omega
theorem bxs_set {r:List BxI} {i:Nat} (b:BxI) (h:i < r.length):(bxsL r).set i (keptSetC ((bxsL r).getD i .junk) 0 [.str b.src,.int .i64 b.next,.sl 1 (intsA b.ahead) .no]) = bxsL (r.take i ++ [b] ++ r.drop (i + 1)):=by
 have h1:(bxsL r).getD i .junk = bxA r[i]:=by simp [List.getD_eq_getElem?_getD,h]
 have h2:keptSetC (bxA r[i]) 0 [.str b.src,.int .i64 b.next,.sl 1 (intsA b.ahead) .no] = bxA b:=rfl
 rw [h1,h2,← List.map_set]
 congr 1
 rw [List.set_eq_take_append_cons_drop,if_pos h]
 simp
set_option maxHeartbeats 4000000 in
theorem p10f (m:Int) (r:List BxI) (p:PkQ) (kind ref ev:Int) (tab key:List UInt8) (sz:Nat) (es:List AV) (o:Own) (hp:p.src.length≤2000000) (hr:rcvOk r = true) (ho:oldB r p.src = true) :
  ∃ A,PureOk PI (GI m) XF (tbl [(27,s27),(28,s28f)]) (itbl [(32,s32),(31,s31),(33,s33n),(34,s34)]) A [] 10 [.agg [.sl 3 (bxsL r) .no],.agg (pkC p kind ref ev tab key (.sl sz es o))] (recvR (recvP r p)):=by
 obtain ⟨hlt,hsrc⟩:=old_at ho
 simp only [rcvOk,Bool.and_eq_true,decide_eq_true_eq,List.all_eq_true] at hr
 obtain ⟨⟨hall,hs⟩,hlen⟩:=hr
 obtain ⟨b,hb⟩:∃ b,r[lowB r p.src] = b:=⟨_,rfl⟩
 have hB:BoxP b:=boxOk_iff.1 (hall b (hb ▸ List.getElem_mem hlt))
 have h64:=hB.len
 have hbO:bOf r p.src = b:=by
  unfold bOf
  rw [if_pos ho,List.getD_eq_getElem?_getD,List.getElem?_eq_getElem hlt,hb]; rfl
 have hb1:=hB.lo
 have hb2:=hB.hi
 unfold maxT at hb2
 refine ⟨a10f p kind ref ev tab key (.sl sz es o) r b,⟨?_⟩⟩
 rw [w10f]
 refine ⟨fun h=>ret_bad (by simp [badP,h]),fun h1=>⟨fun h=>ret_bad (by simp [badP,h]),fun h2=>⟨nameR p.src,⟨c27 hp⟩,fun h3=>⟨fun h=>ret_bad ?_,fun h4=>⟨fun h=>ret_bad (by simp [badP,h]),fun h5=>⟨fun h=>ret_bad ?_,fun h6=>⟨(lowB r p.src:Int),⟨c28f hs (by omega) ho⟩,fun _=>?_,fun h=>(by cases h)⟩⟩⟩⟩,fun h=>ret_bad (by simp [badP,h])⟩⟩⟩
 ·have:(p.fsrc != p.src) = true:=by simpa using h
  simp [badP,this]
 ·have:decide (maxT < p.seq) = true:=h
  simp [badP,this]
 have hbad:=badP_of h1 h2 h3 h4 h5 h6
 have hq1:1≤p.seq:=by simpa using h5
 have hq2:p.seq≤1099511627776:=by simpa using h6
 have hlenb:(bxsL r).length = r.length:=by simp
 have e64:IntKind.i64.wrap (b.next + 64) = b.next + 64:=wrap64_in (by omega) (by omega)
 have hrec:recvP r p = if b.next + 64 < p.seq then .err 410 else if p.seq < b.next∨p.seq ∈ b.ahead then .out r false p.src b.next
   else .out (r.take (lowB r p.src) ++ [arrB b p.seq] ++ r.drop (lowB r p.src + 1)) true p.src (nextB b p.seq):=by
  simp only [recvP,hbad,ho,hbO,Bool.not_true,Bool.false_and,Bool.false_eq_true,if_false,if_true]
 refine ⟨⟨by omega,by rw [hlenb]; omega⟩,b.src,b.next,intsA b.ahead,?_,fun h=>?_,fun h7=>⟨⟨0,?_,?_,Nat.zero_le _,trivial⟩,fun x hx=>⟨fun hxl=>?_,fun hxl=>⟨fun h8=>?_,fun h8=>?_⟩⟩⟩⟩
 ·rw [Int.toNat_natCast,take_bx hlt,hb]
 ·rw [e64] at h
  have h:=of_decide_eq_true h
  exact ⟨by rw [hrec,if_pos (by omega)]; rfl⟩
 ·exact ⟨by simp⟩
 ·exact ⟨by simp⟩
 ·have hxl:=of_decide_eq_true hxl
  have hxl':x < b.ahead.length:=by omega
  have hk:=hB.all _ (List.getElem_mem hxl')
  refine ⟨⟨by omega,by simp; omega⟩,b.ahead[x],?_,trivial,key_i64 (by omega) (by unfold maxT at hk; omega),val_true,by omega,by omega,x + 1,⟨?_⟩,⟨?_⟩,by omega,by omega⟩
  ·rw [Int.toNat_natCast]; exact take_i hxl'
  ·rw [wrap64_in (n:=(x:Int) + 1) (by omega) (by omega)]; simp
  ·rw [putM_mp (nodup_take hB.asc hxl')]
   simp
 all_goals
  have hxe:x = b.ahead.length:=by
   have:=of_decide_eq_false hxl
   omega
  subst hxe
  rw [e64] at h7
  have h7:=of_decide_eq_false h7
 ·have h8:=of_decide_eq_true h8
  have ht:List.take b.ahead.length b.ahead = b.ahead:=List.take_length
  rw [ht]
  refine ⟨key_i64 (by omega) (by omega),decide (p.seq ∈ b.ahead),⟨?_⟩,fun h9=>?_,fun h9=>⟨trivial,key_i64 (by omega) (by omega),val_true,by omega,by omega,⟨⟨b.ahead ++ [p.seq],b.next,insI p.seq b.ahead⟩,⟨rfl⟩,⟨?_⟩,?_,trivial⟩,fun n hn=>?_⟩⟩
  ·rw [lookM_mp]; by_cases hm:p.seq ∈ b.ahead <;> simp [hm]
  ·have h9:=of_decide_eq_true h9
   exact ⟨by rw [hrec,if_neg (by omega),if_pos (.inr h9)]; rfl⟩
  ·rw [putM_mp (of_decide_eq_false h9)]
  ·exact I21_start hB.asc (fun x hx=>(hB.all x hx).1) (of_decide_eq_false h9) (by omega) (by omega) (by omega)
  ·have hn1:=hn.2.2.2.2.2.1
   have hn2:=hn.2.2.2.2.2.2
   refine ⟨key_i64 (by omega) (by omega),decide (n.x ∈ n.l),⟨?_⟩,fun h10=>?_,fun h10=>?_⟩
   ·rw [lookM_mp]; by_cases hm:n.x ∈ n.l <;> simp [hm]
   ·obtain ⟨T',hT,hI⟩:=I21_step hn (of_decide_eq_true h10)
    refine ⟨trivial,key_i64 (by omega) (by omega),_,⟨rfl⟩,⟨?_⟩,hI,?_⟩
    ·rw [delM_mp,wrap64_in (n:=n.x + 1) (by omega) (by omega)]
    ·simp only; rw [hT]; simp
   ·obtain ⟨hE1,hE2⟩:=I21_end hn (of_decide_eq_false h10)
    have hnd:=hn.1
    have harr:arrB b p.seq = ⟨b.src,n.x,n.T⟩:=by simp only [arrB,nextB,hE1]
    have hnx:nextB b p.seq = n.x:=by simp only [nextB,hE1]
    have hset:=bxs_set ⟨b.src,n.x,n.T⟩ hlt
    refine ⟨trivial,⟨by rw [keysZ_mp]; exact hnd,by omega⟩,⟨by intro e; have:=congrArg List.length e; simp at this; simp [this] at hlt,by rw [hlenb]; omega⟩,⟨by omega,by rw [hlenb]; omega⟩,by rw [hlenb]; omega,by simp,⟨?_⟩⟩
    rw [hrec,if_neg (by omega),if_neg (fun h=>h.elim (fun h=>by omega) (of_decide_eq_false h9)),harr,hnx,hE2,Int.toNat_natCast]
    simp only [recvR,rcA]
    rw [← hset]
 ·have h8:=of_decide_eq_false h8
  exact ⟨by rw [hrec,if_neg (by omega),if_pos (.inl (by omega))]; rfl⟩
set_option maxHeartbeats 4000000 in
theorem p10n (m:Int) (r:List BxI) (p:PkQ) (kind ref ev:Int) (tab key:List UInt8) (sz:Nat) (es:List AV) (o:Own) (hp:p.src.length≤2000000) (hr:rcvOk r = true) (ho:oldB r p.src = false) (hne:r ≠ []) :
  ∃ A,PureOk PI (GI m) XN (tbl [(27,s27),(28,s28n)]) (itbl [(32,s32),(31,s31),(33,s33n),(34,s34)]) A [] 10 [.agg [.sl 3 (bxsL r) .no],.agg (pkC p kind ref ev tab key (.sl sz es o))] (recvR (recvP r p)):=by
 have hlow:=low_le r p.src
 simp only [rcvOk,Bool.and_eq_true,decide_eq_true_eq,List.all_eq_true] at hr
 obtain ⟨⟨hall,hs⟩,hlen⟩:=hr
 have hpos:0 < r.length:=List.length_pos_iff.2 hne
 have hbO:bOf r p.src = ⟨p.src,1,[]⟩:=by
  unfold bOf
  rw [if_neg (by simp [ho])]
 refine ⟨a10n p kind ref ev tab key (.sl sz es o) (.sl 3 (bxsL r) .no) (lowB r p.src),⟨?_⟩⟩
 rw [w10n]
 refine ⟨fun h=>ret_bad (by simp [badP,h]),fun h1=>⟨fun h=>ret_bad (by simp [badP,h]),fun h2=>⟨nameR p.src,⟨c27 hp⟩,fun h3=>⟨fun h=>ret_bad ?_,fun h4=>⟨fun h=>ret_bad (by simp [badP,h]),fun h5=>⟨fun h=>ret_bad ?_,fun h6=>⟨(lowB r p.src:Int),⟨c28n hs (by omega) ho⟩,fun h=>(by cases h),fun _=>?_⟩⟩⟩⟩,fun h=>ret_bad (by simp [badP,h])⟩⟩⟩
 ·have:(p.fsrc != p.src) = true:=by simpa using h
  simp [badP,this]
 ·have:decide (maxT < p.seq) = true:=h
  simp [badP,this]
 have hbad:=badP_of h1 h2 h3 h4 h5 h6
 have hq1:1≤p.seq:=by simpa using h5
 have hq2:p.seq≤1099511627776:=by simpa using h6
 have hlenb:(bxsL r).length = r.length:=by simp
 have hrec:recvP r p = if 16≤r.length then .err 2 else if (1:Int) + 64 < p.seq then .err 410
   else .out (r.take (lowB r p.src) ++ [arrB ⟨p.src,1,[]⟩ p.seq] ++ r.drop (lowB r p.src)) true p.src (nextB ⟨p.src,1,[]⟩ p.seq):=by
  simp only [recvP,hbad,ho,hbO,Bool.not_false,Bool.true_and,Bool.false_eq_true,if_false,decide_eq_true_eq,List.not_mem_nil,or_false]
  rw [if_neg (show ¬ p.seq < 1 by omega)]
 refine ⟨fun h=>?_,fun h7=>⟨fun h=>?_,fun h8=>⟨⟨0,⟨rfl⟩,⟨rfl⟩,Nat.zero_le _,trivial⟩,fun x hx=>⟨fun hxl=>?_,fun hxl=>⟨fun h9=>?_,fun h9=>?_⟩⟩⟩⟩⟩
 ·have h:=of_decide_eq_true h
  rw [hlenb] at h
  exact ⟨by rw [hrec,if_pos (by omega)]; rfl⟩
 ·have h7:=of_decide_eq_false h7
  have h:=of_decide_eq_true h
  rw [hlenb] at h7
  exact ⟨by rw [hrec,if_neg (by omega),if_pos (by omega)]; rfl⟩
 ·have:=of_decide_eq_true hxl
  omega
 ·have h7:=of_decide_eq_false h7
  have h8:=of_decide_eq_false h8
  rw [hlenb] at h7
  have hx0:x = 0:=by simpa using hx
  subst hx0
  refine ⟨key_i64 (by omega) (by omega),false,⟨rfl⟩,fun h=>(by cases h),fun _=>⟨trivial,key_i64 (by omega) (by omega),val_true,by omega,by omega,⟨⟨[] ++ [p.seq],1,insI p.seq []⟩,⟨rfl⟩,⟨rfl⟩,?_,trivial⟩,fun n hn=>?_⟩⟩
  ·exact I21_start List.Pairwise.nil (fun x hx=>by cases hx) (by simp) (by omega) (by omega) (by simp)
  ·have hn1:=hn.2.2.2.2.2.1
   have hn2:=hn.2.2.2.2.2.2
   refine ⟨key_i64 (by omega) (by omega),decide (n.x ∈ n.l),⟨?_⟩,fun h10=>?_,fun h10=>?_⟩
   ·rw [lookM_mp]; by_cases hm:n.x ∈ n.l <;> simp [hm]
   ·obtain ⟨T',hT,hI⟩:=I21_step hn (of_decide_eq_true h10)
    refine ⟨trivial,key_i64 (by omega) (by omega),_,⟨rfl⟩,⟨?_⟩,hI,?_⟩
    ·rw [delM_mp,wrap64_in (n:=n.x + 1) (by omega) (by omega)]
    ·simp only; rw [hT]; simp
   ·obtain ⟨hE1,hE2⟩:=I21_end hn (of_decide_eq_false h10)
    have hnd:=hn.1
    have harr:arrB ⟨p.src,1,[]⟩ p.seq = ⟨p.src,n.x,n.T⟩:=by simp only [arrB,nextB,hE1]
    have hnx:nextB ⟨p.src,1,[]⟩ p.seq = n.x:=by simp only [nextB,hE1]
    refine ⟨trivial,⟨by rw [keysZ_mp]; exact hnd,by omega⟩,⟨by intro e; have:=congrArg List.length e; simp at this; exact hne this,by rw [hlenb]; omega⟩,⟨rfl,by omega,by rw [hlenb]; omega,by rw [hlenb]; omega,by rw [hlenb]; exact hpos⟩,⟨?_⟩⟩
    rw [hrec,if_neg (by omega),if_neg (by omega),harr,hnx,hE2,Int.toNat_natCast]
    simp only [recvR,rcA,bxsL,List.map_append,List.map_take,List.map_drop,List.map_cons,List.map_nil,bxA]
 ·have h9:=of_decide_eq_false h9
  exact absurd hq1 h9
end Go.Abs
namespace Go.Abs
open Go.Proofs
def s34e:Spec:=fun args=>match args with
 | [.sl sz [] .full,.int .i64 i,.sl sz2 [.agg [.str s,.int .i64 n,.sl sz3 es .no]] .full]=>if sz = 3∧i = 0∧sz2 = 3∧sz3 = 1∧es.all AV.closed1 = true then some (.sl 3 [.agg [.str s,.int .i64 n,.sl 1 es .no]] (.tok 0),[(1,75)]) else none
 | _=>none
def XE:Shapes:=fun f=>match f with
 | 27 | 35=>some shB
 | 28=>some (.tup [.one (.is (.int .i64 0)),.one (.is (.bool false))],none)
 | 34=>some (.val (.one (.sl 3 (.tok 0))),some 75)
 | _=>none
end Go.Abs
