/- Own texts, part 6. -/
import Derived.Test.YtpglogahncpnoaaPart5

namespace Go.Abs
open Go.Proofs
theorem w34e (m:Int) (s:List UInt8) (n:Int) (es:List AV):(pureW PI (GI m) XE (tbl []) (itbl []) nAn [] 34 [.sl 3 [] .full,.int .i64 0,.sl 3 [.agg [.str s,.int .i64 n,.sl 1 es .no]] .full] (.sl 3 [.agg [.str s,.int .i64 n,.sl 1 es .no]] (.tok 0),[(1,75)])) =
((0 : Int) ≤ (0 : Int) ∧
  ((0 : Nat) ≤ (0 : Nat) ∧ (0 : Nat) ≤ (0 : Nat)) ∧
    ((3 : Nat) = (3 : Nat) ∨ ([] : List AV) = []) ∧
      ((0:Nat) = (0:Nat) →
 (false = true →
 RetIs (AV.sl ((3:Nat)) [] Own.full) []
 (AV.sl ((3:Nat)) [AV.agg [AV.str s,AV.int IntKind.i64 n,AV.sl ((1:Nat)) es Own.no]] (Own.tok ((0:Nat))),[((1:Nat),(75:Nat))])) ∧
 (false = false →
 (true = true →
 ((3:Nat) = (3:Nat)∨([]:List AV) = []) ∧
 ((0:Nat) + (1:Nat)) * (49:Nat)≤(70368744177664:Nat) ∧
 (1:Nat) = (1:Nat) ∧
 RetIs (AV.sl ((3:Nat)) [AV.agg [AV.str s,AV.int IntKind.i64 n,AV.sl ((1:Nat)) es Own.no]] (Own.tok ((0:Nat))))
 [((1:Nat),(75:Nat))]
 (AV.sl ((3:Nat)) [AV.agg [AV.str s,AV.int IntKind.i64 n,AV.sl ((1:Nat)) es Own.no]] (Own.tok ((0:Nat))),
 [((1:Nat),(75:Nat))])) ∧
 (true = false→False))) ∧
        ((0:Nat) ≠ (0:Nat) →
 (false = true →
 RetIs (AV.sl ((3:Nat)) [] Own.full) []
 (AV.sl ((3:Nat)) [AV.agg [AV.str s,AV.int IntKind.i64 n,AV.sl ((1:Nat)) es Own.no]] (Own.tok ((0:Nat))),[((1:Nat),(75:Nat))])) ∧
 (false = false →
 (true = true →
 ((3:Nat) = (3:Nat)∨([]:List AV) = []) ∧
 ((0:Nat) + (1:Nat)) * (49:Nat)≤(70368744177664:Nat) ∧
 (1:Nat) = (1:Nat) ∧
 RetIs (AV.sl ((3:Nat)) [AV.agg [AV.str s,AV.int IntKind.i64 n,AV.sl ((1:Nat)) es Own.no]] (Own.tok ((0:Nat))))
 [((1:Nat),(75:Nat))]
 (AV.sl ((3:Nat)) [AV.agg [AV.str s,AV.int IntKind.i64 n,AV.sl ((1:Nat)) es Own.no]] (Own.tok ((0:Nat))),
 [((1:Nat),(75:Nat))])) ∧
 (true = false→False)))):=by kernel_rfl
theorem w10z (m:Int) (p:PkQ) (kind ref ev:Int) (tab key:List UInt8) (sz:Nat) (es:List AV) (o:Own):(pureW PI (GI m) XE (tbl [(27,s27),(28,s28z),(34,s34e)]) (itbl [(32,s32),(31,s31),(33,s33)]) (a10n p kind ref ev tab key (.sl sz es o) (.sl 0 [] .nil) 0) [] 10 [.agg [.sl 0 [] .nil],.agg (pkC p kind ref ev tab key (.sl sz es o))] (recvR (recvP [] p))) =
((p.ack = true →
    RetIs
      (AV.tup
        [AV.agg [AV.sl ((0:Nat)) [] Own.nil],AV.bool false,
 AV.agg
 [AV.str [],AV.bool false,AV.int IntKind.i64 (0:Int),AV.str [],AV.int IntKind.i64 (0:Int),AV.int IntKind.i64 (0:Int),
 AV.int IntKind.i64 (0:Int),AV.str [],AV.str [],AV.int IntKind.i64 (0:Int),AV.sl ((0:Nat)) [] Own.nil],
 AV.int IntKind.i64 (1:Int)])
      [] (recvR (recvP [] p))) ∧
  (p.ack = false →
    ((p.next != (0:Int)) = true →
        RetIs
 (AV.tup
 [AV.agg [AV.sl ((0:Nat)) [] Own.nil],AV.bool false,
 AV.agg
 [AV.str [],AV.bool false,AV.int IntKind.i64 (0:Int),AV.str [],AV.int IntKind.i64 (0:Int),AV.int IntKind.i64 (0:Int),
 AV.int IntKind.i64 (0:Int),AV.str [],AV.str [],AV.int IntKind.i64 (0:Int),AV.sl ((0:Nat)) [] Own.nil],
 AV.int IntKind.i64 (1:Int)])
 [] (recvR (recvP [] p))) ∧
      ((p.next != (0 : Int)) = false →
        ∃ (b:Bool),
 CallIs (tbl [((27:Nat),s27),((28:Nat),s28z),((34:Nat),s34e)] ((27:Nat)) [AV.str p.src]) (AV.bool b) [] ∧
 (b = true →
 ((!(p.fsrc == p.src && (p.seq == p.seq && true))) = true →
 RetIs
 (AV.tup
 [AV.agg [AV.sl ((0:Nat)) [] Own.nil],AV.bool false,
 AV.agg
 [AV.str [],AV.bool false,AV.int IntKind.i64 (0:Int),AV.str [],AV.int IntKind.i64 (0:Int),AV.int IntKind.i64 (0:Int),
 AV.int IntKind.i64 (0:Int),AV.str [],AV.str [],AV.int IntKind.i64 (0:Int),AV.sl ((0:Nat)) [] Own.nil],
 AV.int IntKind.i64 (1:Int)])
 [] (recvR (recvP [] p))) ∧
 ((!(p.fsrc == p.src && (p.seq == p.seq && true))) = false →
 (decide (p.seq < (1:Int)) = true →
 RetIs
 (AV.tup
 [AV.agg [AV.sl ((0:Nat)) [] Own.nil],AV.bool false,
 AV.agg
 [AV.str [],AV.bool false,AV.int IntKind.i64 (0:Int),AV.str [],AV.int IntKind.i64 (0:Int),AV.int IntKind.i64 (0:Int),
 AV.int IntKind.i64 (0:Int),AV.str [],AV.str [],AV.int IntKind.i64 (0:Int),AV.sl ((0:Nat)) [] Own.nil],
 AV.int IntKind.i64 (1:Int)])
 [] (recvR (recvP [] p))) ∧
 (decide (p.seq < (1:Int)) = false →
 (decide (p.seq > (1099511627776:Int)) = true →
 RetIs
 (AV.tup
 [AV.agg [AV.sl ((0:Nat)) [] Own.nil],AV.bool false,
 AV.agg
 [AV.str [],AV.bool false,AV.int IntKind.i64 (0:Int),AV.str [],AV.int IntKind.i64 (0:Int),
 AV.int IntKind.i64 (0:Int),AV.int IntKind.i64 (0:Int),AV.str [],AV.str [],AV.int IntKind.i64 (0:Int),
 AV.sl ((0:Nat)) [] Own.nil],
 AV.int IntKind.i64 (1:Int)])
 [] (recvR (recvP [] p))) ∧
 (decide (p.seq > (1099511627776:Int)) = false →
 CallIs (some (AV.tup [AV.int IntKind.i64 (0:Int),AV.bool false],[])) (AV.tup [AV.int IntKind.i64 (0:Int),AV.bool false]) [] ∧
 (false = true→((0:Int)≤(0:Int)∧(0:Int) < (0:Int))∧False) ∧
 (false = false →
 (false = true →
 RetIs
 (AV.tup
 [AV.agg [AV.sl ((0:Nat)) [] Own.nil],AV.bool false,
 AV.agg
 [AV.str [],AV.bool false,AV.int IntKind.i64 (0:Int),AV.str [],AV.int IntKind.i64 (0:Int),
 AV.int IntKind.i64 (0:Int),AV.int IntKind.i64 (0:Int),AV.str [],AV.str [],AV.int IntKind.i64 (0:Int),
 AV.sl ((0:Nat)) [] Own.nil],
 AV.int IntKind.i64 (2:Int)])
 [] (recvR (recvP [] p))) ∧
 (false = false →
 (decide (p.seq > (65:Int)) = true →
 RetIs
 (AV.tup
 [AV.agg [AV.sl ((0:Nat)) [] Own.nil],AV.bool false,
 AV.agg
 [AV.str [],AV.bool false,AV.int IntKind.i64 (0:Int),AV.str [],AV.int IntKind.i64 (0:Int),
 AV.int IntKind.i64 (0:Int),AV.int IntKind.i64 (0:Int),AV.str [],AV.str [],
 AV.int IntKind.i64 (0:Int),AV.sl ((0:Nat)) [] Own.nil],
 AV.int IntKind.i64 (410:Int)])
 [] (recvR (recvP [] p))) ∧
 (decide (p.seq > (65:Int)) = false →
 (∃ (y:Nat),
 ValsAre
 [AV.ptr ((0:Nat)) ((0:Nat)),AV.ptr ((1:Nat)) ((0:Nat)),AV.ptr ((2:Nat)) ((0:Nat)),
 AV.ptr ((3:Nat)) ((0:Nat)),AV.int IntKind.i64 p.seq,AV.int IntKind.i64 (0:Int),AV.bool false,
 AV.ptr ((4:Nat)) ((0:Nat)),AV.mp ((5:Nat)),AV.sl ((0:Nat)) [] Own.nil,
 AV.int IntKind.i64 (0:Int),AV.int IntKind.i64 (0:Int)]
 [AV.ptr ((0:Nat)) ((0:Nat)),AV.ptr ((1:Nat)) ((0:Nat)),AV.ptr ((2:Nat)) ((0:Nat)),
 AV.ptr ((3:Nat)) ((0:Nat)),AV.int IntKind.i64 p.seq,AV.int IntKind.i64 (0:Int),AV.bool false,
 AV.ptr ((4:Nat)) ((0:Nat)),AV.mp ((5:Nat)),AV.sl ((0:Nat)) [] Own.nil,
 AV.int IntKind.i64 (0:Int),AV.int IntKind.i64 (↑y:Int)] ∧
 StIs
 { boxes:=[some [AV.sl ((0:Nat)) [] Own.nil],some [AV.str p.src,AV.bool p.ack,AV.int IntKind.i64 p.next,AV.str p.fsrc,AV.int IntKind.i64 p.seq,AV.int IntKind.i64 kind,AV.int IntKind.i64 ref,AV.str tab,AV.str key,AV.int IntKind.i64 ev,AV.sl sz es o],some [AV.sl ((0:Nat)) [] Own.nil],some [AV.str [],AV.bool false,AV.int IntKind.i64 (0:Int),AV.str [],AV.int IntKind.i64 (0:Int),AV.int IntKind.i64 (0:Int),AV.int IntKind.i64 (0:Int),AV.str [],AV.str [],AV.int IntKind.i64 (0:Int),AV.sl ((0:Nat)) [] Own.nil],some [AV.str p.src,AV.int IntKind.i64 (1:Int),AV.sl ((0:Nat)) [] Own.nil],some [AV.tup [AV.int IntKind.i64 (100:Int),AV.int IntKind.i64 (0:Int),AV.tup []]]],live:=[] }
 { boxes:=[some [AV.sl ((0:Nat)) [] Own.nil],some [AV.str p.src,AV.bool p.ack,AV.int IntKind.i64 p.next,AV.str p.fsrc,AV.int IntKind.i64 p.seq,AV.int IntKind.i64 kind,AV.int IntKind.i64 ref,AV.str tab,AV.str key,AV.int IntKind.i64 ev,AV.sl sz es o],some [AV.sl ((0:Nat)) [] Own.nil],some [AV.str [],AV.bool false,AV.int IntKind.i64 (0:Int),AV.str [],AV.int IntKind.i64 (0:Int),AV.int IntKind.i64 (0:Int),AV.int IntKind.i64 (0:Int),AV.str [],AV.str [],AV.int IntKind.i64 (0:Int),AV.sl ((0:Nat)) [] Own.nil],some [AV.str p.src,AV.int IntKind.i64 (1:Int),AV.sl ((0:Nat)) [] Own.nil],some [AV.tup [AV.int IntKind.i64 (100:Int),AV.int IntKind.i64 (↑y:Int),AV.tup (mpL (List.take y []))]]],live:=[] } ∧
 y≤([]:List Int).length∧True) ∧
 ∀ (x:Nat),
 x≤([]:List Int).length →
 (decide ((↑x:Int) < (0:Int)) = true→((0:Int)≤(↑x:Int)∧(↑x:Int) < (0:Int))∧False) ∧
 (decide ((↑x:Int) < (0:Int)) = false →
 (decide (p.seq ≥ (1:Int)) = true →
 KeyIs PI ((3:Nat)) (AV.int IntKind.i64 p.seq) ∧
 ∃ (b:Bool),
 LookIs (mpL (List.take x [])) (AV.int IntKind.i64 p.seq) (AV.bool false) (AV.bool b) ∧
 (b = true →
 RetIs
 (AV.tup
 [AV.agg [AV.sl ((0:Nat)) [] Own.nil],AV.bool false,
 AV.agg
 [AV.str p.src,AV.bool true,AV.int IntKind.i64 (1:Int),AV.str [],
 AV.int IntKind.i64 (0:Int),AV.int IntKind.i64 (0:Int),
 AV.int IntKind.i64 (0:Int),AV.str [],AV.str [],AV.int IntKind.i64 (0:Int),
 AV.sl ((0:Nat)) [] Own.nil],
 AV.int IntKind.i64 (0:Int)])
 [] (recvR (recvP [] p))) ∧
 (b = false →
 True ∧
 KeyIs PI ((3:Nat)) (AV.int IntKind.i64 p.seq) ∧
 ValIs (AV.bool true) ∧
 (0:Int)≤(↑x:Int) ∧
 (↑x:Int) < (70368744177664:Int) ∧
 (∃ (y:St21),
 ValsAre
 [AV.ptr ((0:Nat)) ((0:Nat)),AV.ptr ((1:Nat)) ((0:Nat)),
 AV.ptr ((2:Nat)) ((0:Nat)),AV.bool true,
 AV.ptr ((3:Nat)) ((0:Nat)),AV.int IntKind.i64 p.seq,
 AV.int IntKind.i64 (0:Int),AV.bool false,
 AV.ptr ((4:Nat)) ((0:Nat)),AV.mp ((5:Nat))]
 [AV.ptr ((0:Nat)) ((0:Nat)),AV.ptr ((1:Nat)) ((0:Nat)),
 AV.ptr ((2:Nat)) ((0:Nat)),AV.bool true,
 AV.ptr ((3:Nat)) ((0:Nat)),AV.int IntKind.i64 p.seq,
 AV.int IntKind.i64 (0:Int),AV.bool false,
 AV.ptr ((4:Nat)) ((0:Nat)),AV.mp ((5:Nat))] ∧
 StIs
 { boxes:=[some [AV.sl ((0:Nat)) [] Own.nil],some [AV.str p.src,AV.bool p.ack,AV.int IntKind.i64 p.next,AV.str p.fsrc,AV.int IntKind.i64 p.seq,AV.int IntKind.i64 kind,AV.int IntKind.i64 ref,AV.str tab,AV.str key,AV.int IntKind.i64 ev,AV.sl sz es o],some [AV.sl ((0:Nat)) [] Own.nil],some [AV.str [],AV.bool false,AV.int IntKind.i64 (0:Int),AV.str [],AV.int IntKind.i64 (0:Int),AV.int IntKind.i64 (0:Int),AV.int IntKind.i64 (0:Int),AV.str [],AV.str [],AV.int IntKind.i64 (0:Int),AV.sl ((0:Nat)) [] Own.nil],some [AV.str p.src,AV.int IntKind.i64 (1:Int),AV.sl ((0:Nat)) [] Own.nil],some [AV.tup [AV.int IntKind.i64 (100:Int),AV.int IntKind.i64 ((↑x:Int) + (1:Int)),AV.tup (keptPutM (mpL (List.take x [])) (AV.int IntKind.i64 p.seq) (AV.bool true))]]],live:=[] }
 { boxes:=[some [AV.sl ((0:Nat)) [] Own.nil],some [AV.str p.src,AV.bool p.ack,AV.int IntKind.i64 p.next,AV.str p.fsrc,AV.int IntKind.i64 p.seq,AV.int IntKind.i64 kind,AV.int IntKind.i64 ref,AV.str tab,AV.str key,AV.int IntKind.i64 ev,AV.sl sz es o],some [AV.sl ((0:Nat)) [] Own.nil],some [AV.str [],AV.bool false,AV.int IntKind.i64 (0:Int),AV.str [],AV.int IntKind.i64 (0:Int),AV.int IntKind.i64 (0:Int),AV.int IntKind.i64 (0:Int),AV.str [],AV.str [],AV.int IntKind.i64 (0:Int),AV.sl ((0:Nat)) [] Own.nil],some [AV.str p.src,AV.int IntKind.i64 y.x,AV.sl ((0:Nat)) [] Own.nil],some [AV.tup [AV.int IntKind.i64 (100:Int),AV.int IntKind.i64 (1:Int),AV.tup (mpL y.l)]]],live:=[] } ∧
 I21 (insI p.seq []) (1:Int) y∧True) ∧
 ∀ (x:St21),
 I21 (insI p.seq []) (1:Int) x →
 KeyIs PI ((3:Nat)) (AV.int IntKind.i64 x.x) ∧
 ∃ (b:Bool),
 LookIs (mpL x.l) (AV.int IntKind.i64 x.x) (AV.bool false) (AV.bool b) ∧
 (b = true →
 True ∧
 KeyIs PI ((3:Nat)) (AV.int IntKind.i64 x.x) ∧
 ∃ (y:St21),
 ValsAre
 [AV.ptr ((0:Nat)) ((0:Nat)),
 AV.ptr ((1:Nat)) ((0:Nat)),
 AV.ptr ((2:Nat)) ((0:Nat)),AV.bool true,
 AV.ptr ((3:Nat)) ((0:Nat)),
 AV.int IntKind.i64 p.seq,AV.int IntKind.i64 (0:Int),
 AV.bool false,AV.ptr ((4:Nat)) ((0:Nat)),
 AV.mp ((5:Nat))]
 [AV.ptr ((0:Nat)) ((0:Nat)),
 AV.ptr ((1:Nat)) ((0:Nat)),
 AV.ptr ((2:Nat)) ((0:Nat)),AV.bool true,
 AV.ptr ((3:Nat)) ((0:Nat)),
 AV.int IntKind.i64 p.seq,AV.int IntKind.i64 (0:Int),
 AV.bool false,AV.ptr ((4:Nat)) ((0:Nat)),
 AV.mp ((5:Nat))] ∧
 StIs
 { boxes:=[some [AV.sl ((0:Nat)) [] Own.nil],some [AV.str p.src,AV.bool p.ack,AV.int IntKind.i64 p.next,AV.str p.fsrc,AV.int IntKind.i64 p.seq,AV.int IntKind.i64 kind,AV.int IntKind.i64 ref,AV.str tab,AV.str key,AV.int IntKind.i64 ev,AV.sl sz es o],some [AV.sl ((0:Nat)) [] Own.nil],some [AV.str [],AV.bool false,AV.int IntKind.i64 (0:Int),AV.str [],AV.int IntKind.i64 (0:Int),AV.int IntKind.i64 (0:Int),AV.int IntKind.i64 (0:Int),AV.str [],AV.str [],AV.int IntKind.i64 (0:Int),AV.sl ((0:Nat)) [] Own.nil],some [AV.str p.src,AV.int IntKind.i64 (IntKind.i64.wrap (x.x + (1:Int))),AV.sl ((0:Nat)) [] Own.nil],some [AV.tup [AV.int IntKind.i64 (100:Int),AV.int IntKind.i64 (1:Int),AV.tup (keptDelM (mpL x.l) (AV.int IntKind.i64 x.x))]]],live:=[] }
 { boxes:=[some [AV.sl ((0:Nat)) [] Own.nil],some [AV.str p.src,AV.bool p.ack,AV.int IntKind.i64 p.next,AV.str p.fsrc,AV.int IntKind.i64 p.seq,AV.int IntKind.i64 kind,AV.int IntKind.i64 ref,AV.str tab,AV.str key,AV.int IntKind.i64 ev,AV.sl sz es o],some [AV.sl ((0:Nat)) [] Own.nil],some [AV.str [],AV.bool false,AV.int IntKind.i64 (0:Int),AV.str [],AV.int IntKind.i64 (0:Int),AV.int IntKind.i64 (0:Int),AV.int IntKind.i64 (0:Int),AV.str [],AV.str [],AV.int IntKind.i64 (0:Int),AV.sl ((0:Nat)) [] Own.nil],some [AV.str p.src,AV.int IntKind.i64 y.x,AV.sl ((0:Nat)) [] Own.nil],some [AV.tup [AV.int IntKind.i64 (100:Int),AV.int IntKind.i64 (1:Int),AV.tup (mpL y.l)]]],live:=[] } ∧
 I21 (insI p.seq []) (1:Int) y ∧
 y.T.length < x.T.length) ∧
 (b = false →
 True ∧
 ((keysZ (mpL x.l)).Nodup∧(1:Int)≤(1000000000000:Int)) ∧
 True ∧
 ∃ (es:List AV),
 CallIs
 (tbl
 [((27:Nat),s27),((28:Nat),s28z),
 ((34:Nat),s34e)]
 ((34:Nat))
 [AV.sl ((3:Nat)) [] Own.full,
 AV.int IntKind.i64 (0:Int),
 AV.sl ((3:Nat))
 [AV.agg
 [AV.str p.src,AV.int IntKind.i64 x.x,
 AV.sl ((1:Nat))
 (List.map (AV.int IntKind.i64)
 (sortZ (keysZ (mpL x.l))))
 Own.no]]
 Own.full])
 (AV.sl ((3:Nat)) es (Own.tok ((0:Nat))))
 [(es.length,(75:Nat))] ∧
 RetIs
 (AV.tup
 [AV.agg [AV.sl ((3:Nat)) es Own.no],AV.bool true,
 AV.agg
 [AV.str p.src,AV.bool true,
 AV.int IntKind.i64 x.x,AV.str [],
 AV.int IntKind.i64 (0:Int),
 AV.int IntKind.i64 (0:Int),
 AV.int IntKind.i64 (0:Int),AV.str [],
 AV.str [],AV.int IntKind.i64 (0:Int),
 AV.sl ((0:Nat)) [] Own.nil],
 AV.int IntKind.i64 (0:Int)])
 [] (recvR (recvP [] p))))) ∧
 (decide (p.seq ≥ (1:Int)) = false →
 RetIs
 (AV.tup
 [AV.agg [AV.sl ((0:Nat)) [] Own.nil],AV.bool false,
 AV.agg
 [AV.str p.src,AV.bool true,AV.int IntKind.i64 (1:Int),AV.str [],
 AV.int IntKind.i64 (0:Int),AV.int IntKind.i64 (0:Int),AV.int IntKind.i64 (0:Int),
 AV.str [],AV.str [],AV.int IntKind.i64 (0:Int),AV.sl ((0:Nat)) [] Own.nil],
 AV.int IntKind.i64 (0:Int)])
 [] (recvR (recvP [] p))))))))))) ∧
 (b = false →
 RetIs
 (AV.tup
 [AV.agg [AV.sl ((0:Nat)) [] Own.nil],AV.bool false,
 AV.agg
 [AV.str [],AV.bool false,AV.int IntKind.i64 (0:Int),AV.str [],AV.int IntKind.i64 (0:Int),AV.int IntKind.i64 (0:Int),
 AV.int IntKind.i64 (0:Int),AV.str [],AV.str [],AV.int IntKind.i64 (0:Int),AV.sl ((0:Nat)) [] Own.nil],
 AV.int IntKind.i64 (1:Int)])
 [] (recvR (recvP [] p)))))):=by kernel_rfl
theorem w10e (m:Int) (p:PkQ) (kind ref ev:Int) (tab key:List UInt8) (sz:Nat) (es:List AV) (o:Own):(pureW PI (GI m) XE (tbl [(27,s27),(28,s28z),(34,s34e)]) (itbl [(32,s32),(31,s31),(33,s33)]) (a10n p kind ref ev tab key (.sl sz es o) (.sl 3 [] .no) 0) [] 10 [.agg [.sl 3 [] .no],.agg (pkC p kind ref ev tab key (.sl sz es o))] (recvR (recvP [] p))) =
((p.ack = true →
    RetIs
      (AV.tup
        [AV.agg [AV.sl ((0:Nat)) [] Own.nil],AV.bool false,
 AV.agg
 [AV.str [],AV.bool false,AV.int IntKind.i64 (0:Int),AV.str [],AV.int IntKind.i64 (0:Int),AV.int IntKind.i64 (0:Int),
 AV.int IntKind.i64 (0:Int),AV.str [],AV.str [],AV.int IntKind.i64 (0:Int),AV.sl ((0:Nat)) [] Own.nil],
 AV.int IntKind.i64 (1:Int)])
      [] (recvR (recvP [] p))) ∧
  (p.ack = false →
    ((p.next != (0:Int)) = true →
        RetIs
 (AV.tup
 [AV.agg [AV.sl ((0:Nat)) [] Own.nil],AV.bool false,
 AV.agg
 [AV.str [],AV.bool false,AV.int IntKind.i64 (0:Int),AV.str [],AV.int IntKind.i64 (0:Int),AV.int IntKind.i64 (0:Int),
 AV.int IntKind.i64 (0:Int),AV.str [],AV.str [],AV.int IntKind.i64 (0:Int),AV.sl ((0:Nat)) [] Own.nil],
 AV.int IntKind.i64 (1:Int)])
 [] (recvR (recvP [] p))) ∧
      ((p.next != (0 : Int)) = false →
        ∃ (b:Bool),
 CallIs (tbl [((27:Nat),s27),((28:Nat),s28z),((34:Nat),s34e)] ((27:Nat)) [AV.str p.src]) (AV.bool b) [] ∧
 (b = true →
 ((!(p.fsrc == p.src && (p.seq == p.seq && true))) = true →
 RetIs
 (AV.tup
 [AV.agg [AV.sl ((0:Nat)) [] Own.nil],AV.bool false,
 AV.agg
 [AV.str [],AV.bool false,AV.int IntKind.i64 (0:Int),AV.str [],AV.int IntKind.i64 (0:Int),AV.int IntKind.i64 (0:Int),
 AV.int IntKind.i64 (0:Int),AV.str [],AV.str [],AV.int IntKind.i64 (0:Int),AV.sl ((0:Nat)) [] Own.nil],
 AV.int IntKind.i64 (1:Int)])
 [] (recvR (recvP [] p))) ∧
 ((!(p.fsrc == p.src && (p.seq == p.seq && true))) = false →
 (decide (p.seq < (1:Int)) = true →
 RetIs
 (AV.tup
 [AV.agg [AV.sl ((0:Nat)) [] Own.nil],AV.bool false,
 AV.agg
 [AV.str [],AV.bool false,AV.int IntKind.i64 (0:Int),AV.str [],AV.int IntKind.i64 (0:Int),AV.int IntKind.i64 (0:Int),
 AV.int IntKind.i64 (0:Int),AV.str [],AV.str [],AV.int IntKind.i64 (0:Int),AV.sl ((0:Nat)) [] Own.nil],
 AV.int IntKind.i64 (1:Int)])
 [] (recvR (recvP [] p))) ∧
 (decide (p.seq < (1:Int)) = false →
 (decide (p.seq > (1099511627776:Int)) = true →
 RetIs
 (AV.tup
 [AV.agg [AV.sl ((0:Nat)) [] Own.nil],AV.bool false,
 AV.agg
 [AV.str [],AV.bool false,AV.int IntKind.i64 (0:Int),AV.str [],AV.int IntKind.i64 (0:Int),
 AV.int IntKind.i64 (0:Int),AV.int IntKind.i64 (0:Int),AV.str [],AV.str [],AV.int IntKind.i64 (0:Int),
 AV.sl ((0:Nat)) [] Own.nil],
 AV.int IntKind.i64 (1:Int)])
 [] (recvR (recvP [] p))) ∧
 (decide (p.seq > (1099511627776:Int)) = false →
 CallIs (some (AV.tup [AV.int IntKind.i64 (0:Int),AV.bool false],[])) (AV.tup [AV.int IntKind.i64 (0:Int),AV.bool false]) [] ∧
 (false = true →
 ((0:Int)≤(0:Int)∧(0:Int) < (0:Int)) ∧
 ∃ (s:List UInt8),
 ∃ (n:Int),
 ∃ (es_1:List AV),
 none = some (AV.agg [AV.str s,AV.int IntKind.i64 n,AV.sl ((1:Nat)) es_1 Own.no]) ∧
 (decide (p.seq > IntKind.i64.wrap (n + (64:Int))) = true →
 RetIs
 (AV.tup
 [AV.agg [AV.sl ((0:Nat)) [] Own.nil],AV.bool false,
 AV.agg
 [AV.str [],AV.bool false,AV.int IntKind.i64 (0:Int),AV.str [],AV.int IntKind.i64 (0:Int),
 AV.int IntKind.i64 (0:Int),AV.int IntKind.i64 (0:Int),AV.str [],AV.str [],
 AV.int IntKind.i64 (0:Int),AV.sl ((0:Nat)) [] Own.nil],
 AV.int IntKind.i64 (410:Int)])
 [] (recvR (recvP [] p))) ∧
 (decide (p.seq > IntKind.i64.wrap (n + (64:Int))) = false →
 (∃ (y:Nat),
 ValsAre
 [AV.ptr ((0:Nat)) ((0:Nat)),AV.ptr ((1:Nat)) ((0:Nat)),AV.ptr ((2:Nat)) ((0:Nat)),
 AV.ptr ((3:Nat)) ((0:Nat)),AV.int IntKind.i64 p.seq,AV.int IntKind.i64 (0:Int),AV.bool true,
 AV.ptr ((4:Nat)) ((0:Nat)),AV.mp ((5:Nat)),AV.sl ((1:Nat)) es_1 Own.no,
 AV.int IntKind.i64 (↑es_1.length:Int),AV.int IntKind.i64 (0:Int)]
 [AV.ptr ((0:Nat)) ((0:Nat)),AV.ptr ((1:Nat)) ((0:Nat)),AV.ptr ((2:Nat)) ((0:Nat)),
 AV.ptr ((3:Nat)) ((0:Nat)),AV.int IntKind.i64 p.seq,AV.int IntKind.i64 (0:Int),AV.bool false,
 AV.ptr ((4:Nat)) ((0:Nat)),AV.mp ((5:Nat)),AV.sl ((0:Nat)) [] Own.nil,
 AV.int IntKind.i64 (0:Int),AV.int IntKind.i64 (↑y:Int)] ∧
 StIs
 { boxes:=[some [AV.sl ((3:Nat)) [] Own.no],some [AV.str p.src,AV.bool p.ack,AV.int IntKind.i64 p.next,AV.str p.fsrc,AV.int IntKind.i64 p.seq,AV.int IntKind.i64 kind,AV.int IntKind.i64 ref,AV.str tab,AV.str key,AV.int IntKind.i64 ev,AV.sl sz es o],some [AV.sl ((0:Nat)) [] Own.nil],some [AV.str [],AV.bool false,AV.int IntKind.i64 (0:Int),AV.str [],AV.int IntKind.i64 (0:Int),AV.int IntKind.i64 (0:Int),AV.int IntKind.i64 (0:Int),AV.str [],AV.str [],AV.int IntKind.i64 (0:Int),AV.sl ((0:Nat)) [] Own.nil],some [AV.str s,AV.int IntKind.i64 n,AV.sl ((1:Nat)) es_1 Own.no],some [AV.tup [AV.int IntKind.i64 (100:Int),AV.int IntKind.i64 (0:Int),AV.tup []]]],live:=[] }
 { boxes:=[some [AV.sl ((3:Nat)) [] Own.no],some [AV.str p.src,AV.bool p.ack,AV.int IntKind.i64 p.next,AV.str p.fsrc,AV.int IntKind.i64 p.seq,AV.int IntKind.i64 kind,AV.int IntKind.i64 ref,AV.str tab,AV.str key,AV.int IntKind.i64 ev,AV.sl sz es o],some [AV.sl ((0:Nat)) [] Own.nil],some [AV.str [],AV.bool false,AV.int IntKind.i64 (0:Int),AV.str [],AV.int IntKind.i64 (0:Int),AV.int IntKind.i64 (0:Int),AV.int IntKind.i64 (0:Int),AV.str [],AV.str [],AV.int IntKind.i64 (0:Int),AV.sl ((0:Nat)) [] Own.nil],some [AV.str p.src,AV.int IntKind.i64 (1:Int),AV.sl ((0:Nat)) [] Own.nil],some [AV.tup [AV.int IntKind.i64 (100:Int),AV.int IntKind.i64 (↑y:Int),AV.tup (mpL (List.take y []))]]],live:=[] } ∧
 y≤([]:List Int).length∧True) ∧
 ∀ (x:Nat),
 x≤([]:List Int).length →
 (decide ((↑x:Int) < (0:Int)) = true→((0:Int)≤(↑x:Int)∧(↑x:Int) < (0:Int))∧False) ∧
 (decide ((↑x:Int) < (0:Int)) = false →
 (decide (p.seq ≥ (1:Int)) = true →
 KeyIs PI ((3:Nat)) (AV.int IntKind.i64 p.seq) ∧
 ∃ (b:Bool),
 LookIs (mpL (List.take x [])) (AV.int IntKind.i64 p.seq) (AV.bool false) (AV.bool b) ∧
 (b = true →
 RetIs
 (AV.tup
 [AV.agg [AV.sl ((3:Nat)) [] Own.no],AV.bool false,
 AV.agg
 [AV.str p.src,AV.bool true,AV.int IntKind.i64 (1:Int),AV.str [],
 AV.int IntKind.i64 (0:Int),AV.int IntKind.i64 (0:Int),
 AV.int IntKind.i64 (0:Int),AV.str [],AV.str [],
 AV.int IntKind.i64 (0:Int),AV.sl ((0:Nat)) [] Own.nil],
 AV.int IntKind.i64 (0:Int)])
 [] (recvR (recvP [] p))) ∧
 (b = false →
 True ∧
 KeyIs PI ((3:Nat)) (AV.int IntKind.i64 p.seq) ∧
 ValIs (AV.bool true) ∧
 (0:Int)≤(↑x:Int) ∧
 (↑x:Int) < (70368744177664:Int) ∧
 (∃ (y:St21),
 ValsAre
 [AV.ptr ((0:Nat)) ((0:Nat)),AV.ptr ((1:Nat)) ((0:Nat)),
 AV.ptr ((2:Nat)) ((0:Nat)),AV.bool true,
 AV.ptr ((3:Nat)) ((0:Nat)),AV.int IntKind.i64 p.seq,
 AV.int IntKind.i64 (0:Int),AV.bool false,
 AV.ptr ((4:Nat)) ((0:Nat)),AV.mp ((5:Nat))]
 [AV.ptr ((0:Nat)) ((0:Nat)),AV.ptr ((1:Nat)) ((0:Nat)),
 AV.ptr ((2:Nat)) ((0:Nat)),AV.bool true,
 AV.ptr ((3:Nat)) ((0:Nat)),AV.int IntKind.i64 p.seq,
 AV.int IntKind.i64 (0:Int),AV.bool false,
 AV.ptr ((4:Nat)) ((0:Nat)),AV.mp ((5:Nat))] ∧
 StIs
 { boxes:=[some [AV.sl ((3:Nat)) [] Own.no],some [AV.str p.src,AV.bool p.ack,AV.int IntKind.i64 p.next,AV.str p.fsrc,AV.int IntKind.i64 p.seq,AV.int IntKind.i64 kind,AV.int IntKind.i64 ref,AV.str tab,AV.str key,AV.int IntKind.i64 ev,AV.sl sz es o],some [AV.sl ((0:Nat)) [] Own.nil],some [AV.str [],AV.bool false,AV.int IntKind.i64 (0:Int),AV.str [],AV.int IntKind.i64 (0:Int),AV.int IntKind.i64 (0:Int),AV.int IntKind.i64 (0:Int),AV.str [],AV.str [],AV.int IntKind.i64 (0:Int),AV.sl ((0:Nat)) [] Own.nil],some [AV.str p.src,AV.int IntKind.i64 (1:Int),AV.sl ((0:Nat)) [] Own.nil],some [AV.tup [AV.int IntKind.i64 (100:Int),AV.int IntKind.i64 ((↑x:Int) + (1:Int)),AV.tup (keptPutM (mpL (List.take x [])) (AV.int IntKind.i64 p.seq) (AV.bool true))]]],live:=[] }
 { boxes:=[some [AV.sl ((3:Nat)) [] Own.no],some [AV.str p.src,AV.bool p.ack,AV.int IntKind.i64 p.next,AV.str p.fsrc,AV.int IntKind.i64 p.seq,AV.int IntKind.i64 kind,AV.int IntKind.i64 ref,AV.str tab,AV.str key,AV.int IntKind.i64 ev,AV.sl sz es o],some [AV.sl ((0:Nat)) [] Own.nil],some [AV.str [],AV.bool false,AV.int IntKind.i64 (0:Int),AV.str [],AV.int IntKind.i64 (0:Int),AV.int IntKind.i64 (0:Int),AV.int IntKind.i64 (0:Int),AV.str [],AV.str [],AV.int IntKind.i64 (0:Int),AV.sl ((0:Nat)) [] Own.nil],some [AV.str p.src,AV.int IntKind.i64 y.x,AV.sl ((0:Nat)) [] Own.nil],some [AV.tup [AV.int IntKind.i64 (100:Int),AV.int IntKind.i64 (1:Int),AV.tup (mpL y.l)]]],live:=[] } ∧
 I21 (insI p.seq []) (1:Int) y∧True) ∧
 ∀ (x:St21),
 I21 (insI p.seq []) (1:Int) x →
 KeyIs PI ((3:Nat)) (AV.int IntKind.i64 x.x) ∧
 ∃ (b:Bool),
 LookIs (mpL x.l) (AV.int IntKind.i64 x.x) (AV.bool false)
 (AV.bool b) ∧
 (b = true →
 True ∧
 KeyIs PI ((3:Nat)) (AV.int IntKind.i64 x.x) ∧
 ∃ (y:St21),
 ValsAre
 [AV.ptr ((0:Nat)) ((0:Nat)),
 AV.ptr ((1:Nat)) ((0:Nat)),
 AV.ptr ((2:Nat)) ((0:Nat)),AV.bool true,
 AV.ptr ((3:Nat)) ((0:Nat)),
 AV.int IntKind.i64 p.seq,
 AV.int IntKind.i64 (0:Int),AV.bool false,
 AV.ptr ((4:Nat)) ((0:Nat)),AV.mp ((5:Nat))]
 [AV.ptr ((0:Nat)) ((0:Nat)),
 AV.ptr ((1:Nat)) ((0:Nat)),
 AV.ptr ((2:Nat)) ((0:Nat)),AV.bool true,
 AV.ptr ((3:Nat)) ((0:Nat)),
 AV.int IntKind.i64 p.seq,
 AV.int IntKind.i64 (0:Int),AV.bool false,
 AV.ptr ((4:Nat)) ((0:Nat)),
 AV.mp ((5:Nat))] ∧
 StIs
 { boxes:=[some [AV.sl ((3:Nat)) [] Own.no],some [AV.str p.src,AV.bool p.ack,AV.int IntKind.i64 p.next,AV.str p.fsrc,AV.int IntKind.i64 p.seq,AV.int IntKind.i64 kind,AV.int IntKind.i64 ref,AV.str tab,AV.str key,AV.int IntKind.i64 ev,AV.sl sz es o],some [AV.sl ((0:Nat)) [] Own.nil],some [AV.str [],AV.bool false,AV.int IntKind.i64 (0:Int),AV.str [],AV.int IntKind.i64 (0:Int),AV.int IntKind.i64 (0:Int),AV.int IntKind.i64 (0:Int),AV.str [],AV.str [],AV.int IntKind.i64 (0:Int),AV.sl ((0:Nat)) [] Own.nil],some [AV.str p.src,AV.int IntKind.i64 (IntKind.i64.wrap (x.x + (1:Int))),AV.sl ((0:Nat)) [] Own.nil],some [AV.tup [AV.int IntKind.i64 (100:Int),AV.int IntKind.i64 (1:Int),AV.tup (keptDelM (mpL x.l) (AV.int IntKind.i64 x.x))]]],live:=[] }
 { boxes:=[some [AV.sl ((3:Nat)) [] Own.no],some [AV.str p.src,AV.bool p.ack,AV.int IntKind.i64 p.next,AV.str p.fsrc,AV.int IntKind.i64 p.seq,AV.int IntKind.i64 kind,AV.int IntKind.i64 ref,AV.str tab,AV.str key,AV.int IntKind.i64 ev,AV.sl sz es o],some [AV.sl ((0:Nat)) [] Own.nil],some [AV.str [],AV.bool false,AV.int IntKind.i64 (0:Int),AV.str [],AV.int IntKind.i64 (0:Int),AV.int IntKind.i64 (0:Int),AV.int IntKind.i64 (0:Int),AV.str [],AV.str [],AV.int IntKind.i64 (0:Int),AV.sl ((0:Nat)) [] Own.nil],some [AV.str p.src,AV.int IntKind.i64 y.x,AV.sl ((0:Nat)) [] Own.nil],some [AV.tup [AV.int IntKind.i64 (100:Int),AV.int IntKind.i64 (1:Int),AV.tup (mpL y.l)]]],live:=[] } ∧
 I21 (insI p.seq []) (1:Int) y ∧
 y.T.length < x.T.length) ∧
 (b = false →
 True ∧
 ((keysZ (mpL x.l)).Nodup ∧
 (1:Int)≤(1000000000000:Int)) ∧
 True ∧
 ∃ (es:List AV),
 CallIs
 (tbl
 [((27:Nat),s27),((28:Nat),s28z),
 ((34:Nat),s34e)]
 ((34:Nat))
 [AV.sl ((3:Nat)) [] Own.full,
 AV.int IntKind.i64 (0:Int),
 AV.sl ((3:Nat))
 [AV.agg
 [AV.str p.src,AV.int IntKind.i64 x.x,
 AV.sl ((1:Nat))
 (List.map (AV.int IntKind.i64)
 (sortZ (keysZ (mpL x.l))))
 Own.no]]
 Own.full])
 (AV.sl ((3:Nat)) es (Own.tok ((0:Nat))))
 [(es.length,(75:Nat))] ∧
 RetIs
 (AV.tup
 [AV.agg [AV.sl ((3:Nat)) es Own.no],
 AV.bool true,
 AV.agg
 [AV.str p.src,AV.bool true,
 AV.int IntKind.i64 x.x,AV.str [],
 AV.int IntKind.i64 (0:Int),
 AV.int IntKind.i64 (0:Int),
 AV.int IntKind.i64 (0:Int),AV.str [],
 AV.str [],AV.int IntKind.i64 (0:Int),
 AV.sl ((0:Nat)) [] Own.nil],
 AV.int IntKind.i64 (0:Int)])
 [] (recvR (recvP [] p))))) ∧
 (decide (p.seq ≥ (1:Int)) = false →
 RetIs
 (AV.tup
 [AV.agg [AV.sl ((3:Nat)) [] Own.no],AV.bool false,
 AV.agg
 [AV.str p.src,AV.bool true,AV.int IntKind.i64 (1:Int),AV.str [],
 AV.int IntKind.i64 (0:Int),AV.int IntKind.i64 (0:Int),
 AV.int IntKind.i64 (0:Int),AV.str [],AV.str [],AV.int IntKind.i64 (0:Int),
 AV.sl ((0:Nat)) [] Own.nil],
 AV.int IntKind.i64 (0:Int)])
 [] (recvR (recvP [] p)))))) ∧
 (false = false →
 (false = true →
 RetIs
 (AV.tup
 [AV.agg [AV.sl ((0:Nat)) [] Own.nil],AV.bool false,
 AV.agg
 [AV.str [],AV.bool false,AV.int IntKind.i64 (0:Int),AV.str [],AV.int IntKind.i64 (0:Int),
 AV.int IntKind.i64 (0:Int),AV.int IntKind.i64 (0:Int),AV.str [],AV.str [],AV.int IntKind.i64 (0:Int),
 AV.sl ((0:Nat)) [] Own.nil],
 AV.int IntKind.i64 (2:Int)])
 [] (recvR (recvP [] p))) ∧
 (false = false →
 (decide (p.seq > (65:Int)) = true →
 RetIs
 (AV.tup
 [AV.agg [AV.sl ((0:Nat)) [] Own.nil],AV.bool false,
 AV.agg
 [AV.str [],AV.bool false,AV.int IntKind.i64 (0:Int),AV.str [],AV.int IntKind.i64 (0:Int),
 AV.int IntKind.i64 (0:Int),AV.int IntKind.i64 (0:Int),AV.str [],AV.str [],
 AV.int IntKind.i64 (0:Int),AV.sl ((0:Nat)) [] Own.nil],
 AV.int IntKind.i64 (410:Int)])
 [] (recvR (recvP [] p))) ∧
 (decide (p.seq > (65:Int)) = false →
 (∃ (y:Nat),
 ValsAre
 [AV.ptr ((0:Nat)) ((0:Nat)),AV.ptr ((1:Nat)) ((0:Nat)),AV.ptr ((2:Nat)) ((0:Nat)),
 AV.ptr ((3:Nat)) ((0:Nat)),AV.int IntKind.i64 p.seq,AV.int IntKind.i64 (0:Int),AV.bool false,
 AV.ptr ((4:Nat)) ((0:Nat)),AV.mp ((5:Nat)),AV.sl ((0:Nat)) [] Own.nil,
 AV.int IntKind.i64 (0:Int),AV.int IntKind.i64 (0:Int)]
 [AV.ptr ((0:Nat)) ((0:Nat)),AV.ptr ((1:Nat)) ((0:Nat)),AV.ptr ((2:Nat)) ((0:Nat)),
 AV.ptr ((3:Nat)) ((0:Nat)),AV.int IntKind.i64 p.seq,AV.int IntKind.i64 (0:Int),AV.bool false,
 AV.ptr ((4:Nat)) ((0:Nat)),AV.mp ((5:Nat)),AV.sl ((0:Nat)) [] Own.nil,
 AV.int IntKind.i64 (0:Int),AV.int IntKind.i64 (↑y:Int)] ∧
 StIs
 { boxes:=[some [AV.sl ((3:Nat)) [] Own.no],some [AV.str p.src,AV.bool p.ack,AV.int IntKind.i64 p.next,AV.str p.fsrc,AV.int IntKind.i64 p.seq,AV.int IntKind.i64 kind,AV.int IntKind.i64 ref,AV.str tab,AV.str key,AV.int IntKind.i64 ev,AV.sl sz es o],some [AV.sl ((0:Nat)) [] Own.nil],some [AV.str [],AV.bool false,AV.int IntKind.i64 (0:Int),AV.str [],AV.int IntKind.i64 (0:Int),AV.int IntKind.i64 (0:Int),AV.int IntKind.i64 (0:Int),AV.str [],AV.str [],AV.int IntKind.i64 (0:Int),AV.sl ((0:Nat)) [] Own.nil],some [AV.str p.src,AV.int IntKind.i64 (1:Int),AV.sl ((0:Nat)) [] Own.nil],some [AV.tup [AV.int IntKind.i64 (100:Int),AV.int IntKind.i64 (0:Int),AV.tup []]]],live:=[] }
 { boxes:=[some [AV.sl ((3:Nat)) [] Own.no],some [AV.str p.src,AV.bool p.ack,AV.int IntKind.i64 p.next,AV.str p.fsrc,AV.int IntKind.i64 p.seq,AV.int IntKind.i64 kind,AV.int IntKind.i64 ref,AV.str tab,AV.str key,AV.int IntKind.i64 ev,AV.sl sz es o],some [AV.sl ((0:Nat)) [] Own.nil],some [AV.str [],AV.bool false,AV.int IntKind.i64 (0:Int),AV.str [],AV.int IntKind.i64 (0:Int),AV.int IntKind.i64 (0:Int),AV.int IntKind.i64 (0:Int),AV.str [],AV.str [],AV.int IntKind.i64 (0:Int),AV.sl ((0:Nat)) [] Own.nil],some [AV.str p.src,AV.int IntKind.i64 (1:Int),AV.sl ((0:Nat)) [] Own.nil],some [AV.tup [AV.int IntKind.i64 (100:Int),AV.int IntKind.i64 (↑y:Int),AV.tup (mpL (List.take y []))]]],live:=[] } ∧
 y≤([]:List Int).length∧True) ∧
 ∀ (x:Nat),
 x≤([]:List Int).length →
 (decide ((↑x:Int) < (0:Int)) = true→((0:Int)≤(↑x:Int)∧(↑x:Int) < (0:Int))∧False) ∧
 (decide ((↑x:Int) < (0:Int)) = false →
 (decide (p.seq ≥ (1:Int)) = true →
 KeyIs PI ((3:Nat)) (AV.int IntKind.i64 p.seq) ∧
 ∃ (b:Bool),
 LookIs (mpL (List.take x [])) (AV.int IntKind.i64 p.seq) (AV.bool false) (AV.bool b) ∧
 (b = true →
 RetIs
 (AV.tup
 [AV.agg [AV.sl ((3:Nat)) [] Own.no],AV.bool false,
 AV.agg
 [AV.str p.src,AV.bool true,AV.int IntKind.i64 (1:Int),AV.str [],
 AV.int IntKind.i64 (0:Int),AV.int IntKind.i64 (0:Int),
 AV.int IntKind.i64 (0:Int),AV.str [],AV.str [],AV.int IntKind.i64 (0:Int),
 AV.sl ((0:Nat)) [] Own.nil],
 AV.int IntKind.i64 (0:Int)])
 [] (recvR (recvP [] p))) ∧
 (b = false →
 True ∧
 KeyIs PI ((3:Nat)) (AV.int IntKind.i64 p.seq) ∧
 ValIs (AV.bool true) ∧
 (0:Int)≤(↑x:Int) ∧
 (↑x:Int) < (70368744177664:Int) ∧
 (∃ (y:St21),
 ValsAre
 [AV.ptr ((0:Nat)) ((0:Nat)),AV.ptr ((1:Nat)) ((0:Nat)),
 AV.ptr ((2:Nat)) ((0:Nat)),AV.bool true,
 AV.ptr ((3:Nat)) ((0:Nat)),AV.int IntKind.i64 p.seq,
 AV.int IntKind.i64 (0:Int),AV.bool false,
 AV.ptr ((4:Nat)) ((0:Nat)),AV.mp ((5:Nat))]
 [AV.ptr ((0:Nat)) ((0:Nat)),AV.ptr ((1:Nat)) ((0:Nat)),
 AV.ptr ((2:Nat)) ((0:Nat)),AV.bool true,
 AV.ptr ((3:Nat)) ((0:Nat)),AV.int IntKind.i64 p.seq,
 AV.int IntKind.i64 (0:Int),AV.bool false,
 AV.ptr ((4:Nat)) ((0:Nat)),AV.mp ((5:Nat))] ∧
 StIs
 { boxes:=[some [AV.sl ((3:Nat)) [] Own.no],some [AV.str p.src,AV.bool p.ack,AV.int IntKind.i64 p.next,AV.str p.fsrc,AV.int IntKind.i64 p.seq,AV.int IntKind.i64 kind,AV.int IntKind.i64 ref,AV.str tab,AV.str key,AV.int IntKind.i64 ev,AV.sl sz es o],some [AV.sl ((0:Nat)) [] Own.nil],some [AV.str [],AV.bool false,AV.int IntKind.i64 (0:Int),AV.str [],AV.int IntKind.i64 (0:Int),AV.int IntKind.i64 (0:Int),AV.int IntKind.i64 (0:Int),AV.str [],AV.str [],AV.int IntKind.i64 (0:Int),AV.sl ((0:Nat)) [] Own.nil],some [AV.str p.src,AV.int IntKind.i64 (1:Int),AV.sl ((0:Nat)) [] Own.nil],some [AV.tup [AV.int IntKind.i64 (100:Int),AV.int IntKind.i64 ((↑x:Int) + (1:Int)),AV.tup (keptPutM (mpL (List.take x [])) (AV.int IntKind.i64 p.seq) (AV.bool true))]]],live:=[] }
 { boxes:=[some [AV.sl ((3:Nat)) [] Own.no],some [AV.str p.src,AV.bool p.ack,AV.int IntKind.i64 p.next,AV.str p.fsrc,AV.int IntKind.i64 p.seq,AV.int IntKind.i64 kind,AV.int IntKind.i64 ref,AV.str tab,AV.str key,AV.int IntKind.i64 ev,AV.sl sz es o],some [AV.sl ((0:Nat)) [] Own.nil],some [AV.str [],AV.bool false,AV.int IntKind.i64 (0:Int),AV.str [],AV.int IntKind.i64 (0:Int),AV.int IntKind.i64 (0:Int),AV.int IntKind.i64 (0:Int),AV.str [],AV.str [],AV.int IntKind.i64 (0:Int),AV.sl ((0:Nat)) [] Own.nil],some [AV.str p.src,AV.int IntKind.i64 y.x,AV.sl ((0:Nat)) [] Own.nil],some [AV.tup [AV.int IntKind.i64 (100:Int),AV.int IntKind.i64 (1:Int),AV.tup (mpL y.l)]]],live:=[] } ∧
 I21 (insI p.seq []) (1:Int) y∧True) ∧
 ∀ (x:St21),
 I21 (insI p.seq []) (1:Int) x →
 KeyIs PI ((3:Nat)) (AV.int IntKind.i64 x.x) ∧
 ∃ (b:Bool),
 LookIs (mpL x.l) (AV.int IntKind.i64 x.x) (AV.bool false) (AV.bool b) ∧
 (b = true →
 True ∧
 KeyIs PI ((3:Nat)) (AV.int IntKind.i64 x.x) ∧
 ∃ (y:St21),
 ValsAre
 [AV.ptr ((0:Nat)) ((0:Nat)),
 AV.ptr ((1:Nat)) ((0:Nat)),
 AV.ptr ((2:Nat)) ((0:Nat)),AV.bool true,
 AV.ptr ((3:Nat)) ((0:Nat)),
 AV.int IntKind.i64 p.seq,AV.int IntKind.i64 (0:Int),
 AV.bool false,AV.ptr ((4:Nat)) ((0:Nat)),
 AV.mp ((5:Nat))]
 [AV.ptr ((0:Nat)) ((0:Nat)),
 AV.ptr ((1:Nat)) ((0:Nat)),
 AV.ptr ((2:Nat)) ((0:Nat)),AV.bool true,
 AV.ptr ((3:Nat)) ((0:Nat)),
 AV.int IntKind.i64 p.seq,AV.int IntKind.i64 (0:Int),
 AV.bool false,AV.ptr ((4:Nat)) ((0:Nat)),
 AV.mp ((5:Nat))] ∧
 StIs
 { boxes:=[some [AV.sl ((3:Nat)) [] Own.no],some [AV.str p.src,AV.bool p.ack,AV.int IntKind.i64 p.next,AV.str p.fsrc,AV.int IntKind.i64 p.seq,AV.int IntKind.i64 kind,AV.int IntKind.i64 ref,AV.str tab,AV.str key,AV.int IntKind.i64 ev,AV.sl sz es o],some [AV.sl ((0:Nat)) [] Own.nil],some [AV.str [],AV.bool false,AV.int IntKind.i64 (0:Int),AV.str [],AV.int IntKind.i64 (0:Int),AV.int IntKind.i64 (0:Int),AV.int IntKind.i64 (0:Int),AV.str [],AV.str [],AV.int IntKind.i64 (0:Int),AV.sl ((0:Nat)) [] Own.nil],some [AV.str p.src,AV.int IntKind.i64 (IntKind.i64.wrap (x.x + (1:Int))),AV.sl ((0:Nat)) [] Own.nil],some [AV.tup [AV.int IntKind.i64 (100:Int),AV.int IntKind.i64 (1:Int),AV.tup (keptDelM (mpL x.l) (AV.int IntKind.i64 x.x))]]],live:=[] }
 { boxes:=[some [AV.sl ((3:Nat)) [] Own.no],some [AV.str p.src,AV.bool p.ack,AV.int IntKind.i64 p.next,AV.str p.fsrc,AV.int IntKind.i64 p.seq,AV.int IntKind.i64 kind,AV.int IntKind.i64 ref,AV.str tab,AV.str key,AV.int IntKind.i64 ev,AV.sl sz es o],some [AV.sl ((0:Nat)) [] Own.nil],some [AV.str [],AV.bool false,AV.int IntKind.i64 (0:Int),AV.str [],AV.int IntKind.i64 (0:Int),AV.int IntKind.i64 (0:Int),AV.int IntKind.i64 (0:Int),AV.str [],AV.str [],AV.int IntKind.i64 (0:Int),AV.sl ((0:Nat)) [] Own.nil],some [AV.str p.src,AV.int IntKind.i64 y.x,AV.sl ((0:Nat)) [] Own.nil],some [AV.tup [AV.int IntKind.i64 (100:Int),AV.int IntKind.i64 (1:Int),AV.tup (mpL y.l)]]],live:=[] } ∧
 I21 (insI p.seq []) (1:Int) y ∧
 y.T.length < x.T.length) ∧
 (b = false →
 True ∧
 ((keysZ (mpL x.l)).Nodup∧(1:Int)≤(1000000000000:Int)) ∧
 True ∧
 ∃ (es:List AV),
 CallIs
 (tbl
 [((27:Nat),s27),((28:Nat),s28z),
 ((34:Nat),s34e)]
 ((34:Nat))
 [AV.sl ((3:Nat)) [] Own.full,
 AV.int IntKind.i64 (0:Int),
 AV.sl ((3:Nat))
 [AV.agg
 [AV.str p.src,AV.int IntKind.i64 x.x,
 AV.sl ((1:Nat))
 (List.map (AV.int IntKind.i64)
 (sortZ (keysZ (mpL x.l))))
 Own.no]]
 Own.full])
 (AV.sl ((3:Nat)) es (Own.tok ((0:Nat))))
 [(es.length,(75:Nat))] ∧
 RetIs
 (AV.tup
 [AV.agg [AV.sl ((3:Nat)) es Own.no],AV.bool true,
 AV.agg
 [AV.str p.src,AV.bool true,
 AV.int IntKind.i64 x.x,AV.str [],
 AV.int IntKind.i64 (0:Int),
 AV.int IntKind.i64 (0:Int),
 AV.int IntKind.i64 (0:Int),AV.str [],
 AV.str [],AV.int IntKind.i64 (0:Int),
 AV.sl ((0:Nat)) [] Own.nil],
 AV.int IntKind.i64 (0:Int)])
 [] (recvR (recvP [] p))))) ∧
 (decide (p.seq ≥ (1:Int)) = false →
 RetIs
 (AV.tup
 [AV.agg [AV.sl ((3:Nat)) [] Own.no],AV.bool false,
 AV.agg
 [AV.str p.src,AV.bool true,AV.int IntKind.i64 (1:Int),AV.str [],
 AV.int IntKind.i64 (0:Int),AV.int IntKind.i64 (0:Int),AV.int IntKind.i64 (0:Int),
 AV.str [],AV.str [],AV.int IntKind.i64 (0:Int),AV.sl ((0:Nat)) [] Own.nil],
 AV.int IntKind.i64 (0:Int)])
 [] (recvR (recvP [] p))))))))))) ∧
 (b = false →
 RetIs
 (AV.tup
 [AV.agg [AV.sl ((0:Nat)) [] Own.nil],AV.bool false,
 AV.agg
 [AV.str [],AV.bool false,AV.int IntKind.i64 (0:Int),AV.str [],AV.int IntKind.i64 (0:Int),AV.int IntKind.i64 (0:Int),
 AV.int IntKind.i64 (0:Int),AV.str [],AV.str [],AV.int IntKind.i64 (0:Int),AV.sl ((0:Nat)) [] Own.nil],
 AV.int IntKind.i64 (1:Int)])
 [] (recvR (recvP [] p)))))):=by kernel_rfl
end Go.Abs
namespace Go.Abs
open Go.Proofs Go.RowKit
theorem c34e {s:List UInt8} {n:Int} {l:List Int} {a b:FuncId × Spec} (ha:¬ 34 = a.1) (hb:¬ 34 = b.1):tbl [a,b,(34,s34e)] 34 [.sl 3 [] .full,.int .i64 0,.sl 3 [.agg [.str s,.int .i64 n,.sl 1 (intsA l) .no]] .full] = some (.sl 3 [.agg [.str s,.int .i64 n,.sl 1 (intsA l) .no]] (.tok 0),[(1,75)]):=by
 obtain ⟨a1,a2⟩:=a
 obtain ⟨b1,b2⟩:=b
 rw [tbl_miss ha,tbl_miss hb,tbl_hit]
 simp only [s34e]
 rw [if_pos ⟨trivial,trivial,trivial,trivial,by simp [AV.closed1,AV.closed]⟩]
set_option maxHeartbeats 4000000 in
theorem p10e (m:Int) (p:PkQ) (kind ref ev:Int) (tab key:List UInt8) (sz:Nat) (es:List AV) (o:Own) (hp:p.src.length≤2000000) :
  ∃ A,PureOk PI (GI m) XE (tbl [(27,s27),(28,s28z),(34,s34e)]) (itbl [(32,s32),(31,s31),(33,s33)]) A [] 10 [.agg [.sl 3 [] .no],.agg (pkC p kind ref ev tab key (.sl sz es o))] (recvR (recvP [] p)):=by
 have hbO:bOf [] p.src = ⟨p.src,1,[]⟩:=rfl
 have ho:oldB [] p.src = false:=rfl
 refine ⟨a10n p kind ref ev tab key (.sl sz es o) (.sl 3 [] .no) 0,⟨?_⟩⟩
 rw [w10e]
 refine ⟨fun h=>ret_bad (by simp [badP,h]),fun h1=>⟨fun h=>ret_bad (by simp [badP,h]),fun h2=>⟨nameR p.src,⟨c27 hp⟩,fun h3=>⟨fun h=>ret_bad ?_,fun h4=>⟨fun h=>ret_bad (by simp [badP,h]),fun h5=>⟨fun h=>ret_bad ?_,fun h6=>⟨⟨rfl⟩,fun h=>(by cases h),fun _=>?_⟩⟩⟩⟩,fun h=>ret_bad (by simp [badP,h])⟩⟩⟩
 ·have:(p.fsrc != p.src) = true:=by simpa using h
  simp [badP,this]
 ·have:decide (maxT < p.seq) = true:=h
  simp [badP,this]
 have hbad:=badP_of h1 h2 h3 h4 h5 h6
 have hq1:1≤p.seq:=by simpa using h5
 have hq2:p.seq≤1099511627776:=by simpa using h6
 have hrec:recvP [] p = if (1:Int) + 64 < p.seq then .err 410
   else .out [arrB ⟨p.src,1,[]⟩ p.seq] true p.src (nextB ⟨p.src,1,[]⟩ p.seq):=by
  simp only [recvP,hbad,ho,hbO,Bool.not_false,Bool.true_and,Bool.false_eq_true,if_false,decide_eq_true_eq,List.not_mem_nil,or_false]
  rw [if_neg (by simp),if_neg (show ¬ p.seq < 1 by omega)]
  rfl
 refine ⟨fun h=>(by cases h),fun _=>⟨fun h=>?_,fun h8=>⟨⟨0,⟨rfl⟩,⟨rfl⟩,Nat.zero_le _,trivial⟩,fun x hx=>⟨fun hxl=>?_,fun hxl=>⟨fun h9=>?_,fun h9=>?_⟩⟩⟩⟩⟩
 ·have h:=of_decide_eq_true h
  exact ⟨by rw [hrec,if_pos (by omega)]; rfl⟩
 ·have:=of_decide_eq_true hxl
  omega
 ·have h8:=of_decide_eq_false h8
  have hx0:x = 0:=by simpa using hx
  subst hx0
  refine ⟨key_i64 (by omega) (by omega),false,⟨rfl⟩,fun h=>(by cases h),fun _=>⟨trivial,key_i64 (by omega) (by omega),val_true,by omega,by omega,⟨⟨[] ++ [p.seq],1,insI p.seq []⟩,⟨rfl⟩,⟨rfl⟩,?_,trivial⟩,fun n hn=>?_⟩⟩
  ·exact I21_start List.Pairwise.nil (fun x hx=>by cases hx) (by simp) (by omega) (by omega) (by simp)
  ·have hn1:=hn.2.2.2.2.2.1
   have hn2:=hn.2.2.2.2.2.2
   refine ⟨key_i64 (by omega) (by omega),decide (n.x ∈ n.l),⟨?_⟩,fun h10=>?_,fun h10=>?_⟩
   ·rw [lookM_mp]; by_cases hm:n.x ∈ n.l <;> simp [hm]
   ·obtain ⟨T',hT,hI⟩:=I21_step hn (of_decide_eq_true h10)
    refine ⟨trivial,key_i64 (by omega) (by omega),_,⟨rfl⟩,⟨?_⟩,hI,?_⟩
    ·rw [delM_mp,wrap64_in (n:=n.x + 1) (by omega) (by omega)]
    ·simp only; rw [hT]; simp
   ·obtain ⟨hE1,hE2⟩:=I21_end hn (of_decide_eq_false h10)
    have hnd:=hn.1
    have harr:arrB ⟨p.src,1,[]⟩ p.seq = ⟨p.src,n.x,n.T⟩:=by simp only [arrB,nextB,hE1]
    have hnx:nextB ⟨p.src,1,[]⟩ p.seq = n.x:=by simp only [nextB,hE1]
    refine ⟨trivial,⟨by rw [keysZ_mp]; exact hnd,by omega⟩,trivial,[bxA ⟨p.src,n.x,n.T⟩],⟨?_⟩,⟨?_⟩⟩
    ·rw [hE2]; exact c34e (by decide) (by decide)
    ·rw [hrec,if_neg (by omega),harr,hnx]
     rfl
 ·have h9:=of_decide_eq_false h9
  exact absurd hq1 h9
set_option maxHeartbeats 4000000 in
theorem p10z (m:Int) (p:PkQ) (kind ref ev:Int) (tab key:List UInt8) (sz:Nat) (es:List AV) (o:Own) (hp:p.src.length≤2000000) :
  ∃ A,PureOk PI (GI m) XE (tbl [(27,s27),(28,s28z),(34,s34e)]) (itbl [(32,s32),(31,s31),(33,s33)]) A [] 10 [.agg [.sl 0 [] .nil],.agg (pkC p kind ref ev tab key (.sl sz es o))] (recvR (recvP [] p)):=by
 have hbO:bOf [] p.src = ⟨p.src,1,[]⟩:=rfl
 have ho:oldB [] p.src = false:=rfl
 refine ⟨a10n p kind ref ev tab key (.sl sz es o) (.sl 0 [] .nil) 0,⟨?_⟩⟩
 rw [w10z]
 refine ⟨fun h=>ret_bad (by simp [badP,h]),fun h1=>⟨fun h=>ret_bad (by simp [badP,h]),fun h2=>⟨nameR p.src,⟨c27 hp⟩,fun h3=>⟨fun h=>ret_bad ?_,fun h4=>⟨fun h=>ret_bad (by simp [badP,h]),fun h5=>⟨fun h=>ret_bad ?_,fun h6=>⟨⟨rfl⟩,fun h=>(by cases h),fun _=>?_⟩⟩⟩⟩,fun h=>ret_bad (by simp [badP,h])⟩⟩⟩
 ·have:(p.fsrc != p.src) = true:=by simpa using h
  simp [badP,this]
 ·have:decide (maxT < p.seq) = true:=h
  simp [badP,this]
 have hbad:=badP_of h1 h2 h3 h4 h5 h6
 have hq1:1≤p.seq:=by simpa using h5
 have hq2:p.seq≤1099511627776:=by simpa using h6
 have hrec:recvP [] p = if (1:Int) + 64 < p.seq then .err 410
   else .out [arrB ⟨p.src,1,[]⟩ p.seq] true p.src (nextB ⟨p.src,1,[]⟩ p.seq):=by
  simp only [recvP,hbad,ho,hbO,Bool.not_false,Bool.true_and,Bool.false_eq_true,if_false,decide_eq_true_eq,List.not_mem_nil,or_false]
  rw [if_neg (by simp),if_neg (show ¬ p.seq < 1 by omega)]
  rfl
 refine ⟨fun h=>(by cases h),fun _=>⟨fun h=>?_,fun h8=>⟨⟨0,⟨rfl⟩,⟨rfl⟩,Nat.zero_le _,trivial⟩,fun x hx=>⟨fun hxl=>?_,fun hxl=>⟨fun h9=>?_,fun h9=>?_⟩⟩⟩⟩⟩
 ·have h:=of_decide_eq_true h
  exact ⟨by rw [hrec,if_pos (by omega)]; rfl⟩
 ·have:=of_decide_eq_true hxl
  omega
 ·have h8:=of_decide_eq_false h8
  have hx0:x = 0:=by simpa using hx
  subst hx0
  refine ⟨key_i64 (by omega) (by omega),false,⟨rfl⟩,fun h=>(by cases h),fun _=>⟨trivial,key_i64 (by omega) (by omega),val_true,by omega,by omega,⟨⟨[] ++ [p.seq],1,insI p.seq []⟩,⟨rfl⟩,⟨rfl⟩,?_,trivial⟩,fun n hn=>?_⟩⟩
  ·exact I21_start List.Pairwise.nil (fun x hx=>by cases hx) (by simp) (by omega) (by omega) (by simp)
  ·have hn1:=hn.2.2.2.2.2.1
   have hn2:=hn.2.2.2.2.2.2
   refine ⟨key_i64 (by omega) (by omega),decide (n.x ∈ n.l),⟨?_⟩,fun h10=>?_,fun h10=>?_⟩
   ·rw [lookM_mp]; by_cases hm:n.x ∈ n.l <;> simp [hm]
   ·obtain ⟨T',hT,hI⟩:=I21_step hn (of_decide_eq_true h10)
    refine ⟨trivial,key_i64 (by omega) (by omega),_,⟨rfl⟩,⟨?_⟩,hI,?_⟩
    ·rw [delM_mp,wrap64_in (n:=n.x + 1) (by omega) (by omega)]
    ·simp only; rw [hT]; simp
   ·obtain ⟨hE1,hE2⟩:=I21_end hn (of_decide_eq_false h10)
    have hnd:=hn.1
    have harr:arrB ⟨p.src,1,[]⟩ p.seq = ⟨p.src,n.x,n.T⟩:=by simp only [arrB,nextB,hE1]
    have hnx:nextB ⟨p.src,1,[]⟩ p.seq = n.x:=by simp only [nextB,hE1]
    refine ⟨trivial,⟨by rw [keysZ_mp]; exact hnd,by omega⟩,trivial,[bxA ⟨p.src,n.x,n.T⟩],⟨?_⟩,⟨?_⟩⟩
    ·rw [hE2]; exact c34e (by decide) (by decide)
    ·rw [hrec,if_neg (by omega),harr,hnx]
     rfl
 ·have h9:=of_decide_eq_false h9
  exact absurd hq1 h9
theorem spec_of' {P:Program} {G:Glob} (hm:P.follows .mixedOrders = true) {m:List Bool} {f:FuncId} {s:Spec}
  (h:∀ args r,s args = some r→∃ X R C A,CalleeOk P G R∧ICalleeOk P G (lowC C)∧PureOk P G X R C A m f args r):SpecOk P G f s:=by
 intro g args r lv hr
 by_cases e:g = f
 ·subst e
  simp only [if_true] at hr
  obtain ⟨X,R,C,A,hR,hC,hA⟩:=h args _ hr
  classical
  have key:SpecOk P G g (fun a=>if a = args then some (r,lv) else none):=spec_of (X:=X) (m:=m) hm hR hC fun a r' h'=>by
   split at h'
   ·rename_i ea
    injection h' with h'
    subst ea; subst h'
    exact ⟨A,hA⟩
   ·cases h'
  exact key g args r lv (by simp)
 ·simp only [if_neg e] at hr
  cases hr
theorem o34e (m:Int):SpecOk PI (GI m) 34 s34e:=spec_of' mixedI (m:=[]) fun args r h=>by
 unfold s34e at h
 split at h
 case h_2=>cases h
 split at h
 case isFalse=>cases h
 rename_i hc
 obtain ⟨rfl,rfl,rfl,rfl,_⟩:=hc
 injection h with h; subst h
 refine ⟨XE,tbl [],itbl [],nAn,tbl_nil,itbl_nil,⟨?_⟩⟩
 rw [w34e]
 refine ⟨by omega,⟨by omega,by omega⟩,.inl rfl,fun _=>⟨fun h=>(by cases h),fun _=>⟨fun _=>⟨.inl rfl,by omega,rfl,⟨rfl⟩⟩,fun h=>(by cases h)⟩⟩,fun h=>absurd rfl h⟩
theorem o28f (m:Int):SpecOk PI (GI m) 28 s28f:=spec_of (X:=XR) (m:=[]) mixedI (tbl_cons (o29 m) tbl_nil) itbl_nil fun args r h=>by
 unfold s28f at h
 split at h
 case h_2=>cases h
 split at h
 case isFalse=>cases h
 rename_i hz
 subst hz
 split at h
 case h_2=>cases h
 rename_i r hr
 split at h
 case isFalse=>cases h
 rename_i hc
 injection h with h; subst h
 rw [unBs_inv hr,← hc.2.2]
 exact ⟨_,p28 m r _ hc.1 hc.2.1⟩
theorem o28n (m:Int):SpecOk PI (GI m) 28 s28n:=spec_of (X:=XR) (m:=[]) mixedI (tbl_cons (o29 m) tbl_nil) itbl_nil fun args r h=>by
 unfold s28n at h
 split at h
 case h_2=>cases h
 split at h
 case isFalse=>cases h
 rename_i hz
 subst hz
 split at h
 case h_2=>cases h
 rename_i r hr
 split at h
 case isFalse=>cases h
 rename_i hc
 injection h with h; subst h
 rw [unBs_inv hr,← hc.2.2]
 exact ⟨_,p28 m r _ hc.1 hc.2.1⟩
theorem o28z (m:Int):SpecOk PI (GI m) 28 s28z:=spec_of (X:=XR) (m:=[]) mixedI (tbl_cons (o29 m) tbl_nil) itbl_nil fun args r h=>by
 unfold s28z at h
 split at h
 case h_2=>cases h
 split at h
 case isFalse=>cases h
 rename_i hz
 injection h with h; subst h
 rcases hz with rfl | rfl
 ·exact ⟨_,p28z m _ _⟩
 ·exact ⟨_,p28e m _ _⟩
theorem o33n (m:Int):ISpecOk PI (GI m) 33 s33n:=oCloneN (o33 m)
def rcvOf (sz:Nat) (es:List AV) (o:Own):Option (List BxI):=
 match o with
 | .nil=>if sz = 0∧es.isEmpty = true then some [] else none
 | .no=>if sz = 3 then unL unB es else none
 | _=>none
def s10:Spec:=fun args=>match args with
 | [.agg [.sl sz es o],.agg [.str src,.bool ack,.int .i64 next,.str fsrc,.int .i64 seq,.int .i64 _,.int .i64 _,.str _,.str _,.int .i64 _,.sl _ _ _]] =>
  if src.length≤2000000 then (match rcvOf sz es o with
   | some r=>if rcvOk r = true then some (recvR (recvP r ⟨src,ack,next,fsrc,seq⟩)) else none
   | none=>none) else none
 | _=>none
theorem o10 (m:Int):SpecOk PI (GI m) 10 s10:=spec_of' mixedI (m:=[]) fun args r h=>by
 unfold s10 at h
 split at h
 case h_2=>cases h
 rename_i sz es o src ack next fsrc seq kind ref tab key ev sz2 es2 o2
 split at h
 case isFalse=>cases h
 rename_i hl
 split at h
 case h_2=>cases h
 rename_i r hr
 split at h
 case isFalse=>cases h
 rename_i hok
 injection h with h; subst h
 have hz:∀ {X:Shapes} {R:Callee} {C:CCallee},CalleeOk PI (GI m) R→ICalleeOk PI (GI m) (lowC C)→(∃ A,PureOk PI (GI m) X R C A [] 10 [.agg [.sl sz es o],.agg (pkC ⟨src,ack,next,fsrc,seq⟩ kind ref ev tab key (.sl sz2 es2 o2))] (recvR (recvP r ⟨src,ack,next,fsrc,seq⟩))) →
   ∃ X R C A,CalleeOk PI (GI m) R∧ICalleeOk PI (GI m) (lowC C)∧PureOk PI (GI m) X R C A [] 10 [.agg [.sl sz es o],.agg [.str src,.bool ack,.int .i64 next,.str fsrc,.int .i64 seq,.int .i64 kind,.int .i64 ref,.str tab,.str key,.int .i64 ev,.sl sz2 es2 o2]] (recvR (recvP r ⟨src,ack,next,fsrc,seq⟩)):=fun {X R C} hR hC ⟨A,hA⟩=>⟨X,R,C,A,hR,hC,hA⟩
 have hE:ICalleeOk PI (GI m) (lowC (itbl [(32,s32),(31,s31),(33,s33)])):=itbl_cons (o32 m) (itbl_cons (o31 m) (itbl_cons (o33 m) itbl_nil))
 have hN:ICalleeOk PI (GI m) (lowC (itbl [(32,s32),(31,s31),(33,s33n),(34,s34)])):=itbl_cons (o32 m) (itbl_cons (o31 m) (itbl_cons (o33n m) (itbl_cons (o34 m) itbl_nil)))
 have hTE:CalleeOk PI (GI m) (tbl [(27,s27),(28,s28z),(34,s34e)]):=tbl_cons (o27 m) (tbl_cons (o28z m) (tbl_cons (o34e m) tbl_nil))
 cases o with
 | nil =>
  simp only [rcvOf] at hr
  split at hr
  case isFalse=>cases hr
  rename_i hc
  obtain ⟨rfl,he⟩:=hc
  obtain rfl:es = []:=by simpa using he
  injection hr with hr; subst hr
  exact hz hTE hE (p10z m _ kind ref ev tab key sz2 es2 o2 hl)
 | no =>
  simp only [rcvOf] at hr
  split at hr
  case isFalse=>cases hr
  rename_i hc
  subst hc
  obtain rfl:=unBs_inv hr
  by_cases hne:r = []
  ·subst hne
   exact hz hTE hE (p10e m _ kind ref ev tab key sz2 es2 o2 hl)
  ·by_cases hold:oldB r src = true
   ·exact hz (tbl_cons (o27 m) (tbl_cons (o28f m) tbl_nil)) hN (p10f m r ⟨src,ack,next,fsrc,seq⟩ kind ref ev tab key sz2 es2 o2 hl hok hold)
   ·exact hz (tbl_cons (o27 m) (tbl_cons (o28n m) tbl_nil)) hN (p10n m r ⟨src,ack,next,fsrc,seq⟩ kind ref ev tab key sz2 es2 o2 hl hok (by simpa using hold) hne)
 | full=>simp [rcvOf] at hr
 | tok t=>simp [rcvOf] at hr
end Go.Abs
namespace Go.Abs
open Go.Proofs
end Go.Abs
namespace Go.Abs
open Go.Proofs Go.RowKit
theorem wrapN {a:Nat} (h:a < 4611686018427387904):IntKind.i64.wrap ((a:Int) + 1) = ((a + 1:Nat):Int):=by
 rw [wrap64_in (n:=(a:Int) + 1) (by omega) (by omega)]; simp
theorem agg9:aggA PI 9 = some false:=by kernel_rfl
theorem size9:(sizeA PI 9).isSome = true:=by kernel_rfl
theorem low_lt {r:List BxI} {t:List UInt8} {x:Nat} (hx:x≤lowB r t) (hl:x < r.length) (h:Op.bytesLess (r[x]).src t = true):x + 1≤lowB r t:=by
 rcases Nat.lt_or_eq_of_le hx with h' | h'
 ·exact h'
 ·subst h'
  have:=tw_len_le (p:=fun b:BxI=>Op.bytesLess b.src t) (l:=r) (k:=lowB r t + 1) (fun i hi hk=>by
   rcases Nat.lt_or_eq_of_le (show i≤lowB r t by omega) with h1 | h1
   ·exact (tw_at (p:=fun b:BxI=>Op.bytesLess b.src t) (l:=r) h1).2
   ·subst h1; exact h) (by omega)
  exact this
theorem old_iff {r:List BxI} {t:List UInt8} (h:lowB r t < r.length):oldB r t = (r[lowB r t].src == t):=by
 unfold oldB; rw [List.getElem?_eq_getElem h]; rfl
end Go.Abs
namespace Go.Abs
open Go.Proofs
end Go.Abs
namespace Go.Abs
open Go.Proofs Go.RowKit
end Go.Abs
namespace Go.Abs
open Go.Proofs
def s8:Spec:=fun args=>match args with
 | [.agg [.sl sz es .no]]=>if sz = 3 then (match unL unB es with
  | some r=>if r.length≤140737488351232∧(r.all fun b=>decide (b.src.length≤140737488351232) && decide (b.ahead.length≤140737488351232)) = true then some (.bool (rcvOk r),[]) else none
  | none=>none) else none
 | _=>none
def s13:Spec:=fun args=>match args with
 | [.agg [.sl sz es .no],.agg [.sl sz2 es2 .no]]=>if sz = 3∧sz2 = 3 then (match unL unB es,unL unB es2 with
  | some a,some b=>if a.length≤140737488351232∧(a.all fun b=>decide (b.ahead.length≤140737488351232)) = true∧(b.all fun b=>decide (b.ahead.length≤140737488351232)) = true then some (.bool (decide (a = b)),[]) else none
  | _,_=>none) else none
 | [.agg [.sl sz [] .nil],.agg [.sl sz2 [] .nil]]=>if sz = 0∧sz2 = 0 then some (.bool true,[]) else none
 | _=>none
abbrev pkZ (s:List UInt8) (a:Bool) (n:Int):AV:=.agg [.str s,.bool a,.int .i64 n,.str [],.int .i64 0,.int .i64 0,.int .i64 0,.str [],.str [],.int .i64 0,.sl 3 [] .no]
abbrev fcZ:AV:=.agg [.str [],.int .i64 0,.int .i64 0,.int .i64 0,.str [],.str [],.int .i64 0,.sl 3 [] .no]
def s57:Spec:=fun args=>match args with
 | [.sl sz [] .no,.sl sz2 [] .no]=>if sz = 3∧sz2 = 3 then some (.bool true,[]) else none
 | _=>none
def s39:Spec:=fun args=>match args with
 | [.agg [.str [],.int .i64 a,.int .i64 b,.int .i64 c,.str [],.str [],.int .i64 d,.sl sz [] .no],.agg [.str [],.int .i64 a',.int .i64 b',.int .i64 c',.str [],.str [],.int .i64 d',.sl sz2 [] .no]] =>
  if a = 0∧b = 0∧c = 0∧d = 0∧a' = 0∧b' = 0∧c' = 0∧d' = 0∧sz = 3∧sz2 = 3 then some (.bool true,[]) else none
 | _=>none
def s12:Spec:=fun args=>match args with
 | [.agg [.str s,.bool t,.int .i64 n,.str [],.int .i64 a,.int .i64 b,.int .i64 c,.str [],.str [],.int .i64 d,.sl sz [] .no],.agg [.str s',.bool t',.int .i64 n',.str [],.int .i64 a',.int .i64 b',.int .i64 c',.str [],.str [],.int .i64 d',.sl sz2 [] .no]] =>
  if a = 0∧b = 0∧c = 0∧d = 0∧a' = 0∧b' = 0∧c' = 0∧d' = 0∧sz = 3∧sz2 = 3 then some (.bool (decide (s = s'∧t = t'∧n = n')),[]) else none
 | _=>none
def XS:Shapes:=fun f=>match f with
 | 35 | 26 | 39 | 57 | 13 | 12 | 8 | 7 | 9 | 27=>some shB
 | _=>none
def a13 (a b:List BxI):Anns:=⟨fun k=>match k with
 | 4=>some { α:=Nat,slots:=[2,3,5],nb:=2,vals:=fun n=>[.ptr 0 0,.ptr 1 0,.int .i64 n],sS:=fun _=>⟨[some [.sl 3 (bxsL a) .no],some [.sl 3 (bxsL b) .no]],[]⟩,I:=fun n=>n≤a.length∧a.take n = b.take n,μ:=fun n=>a.length - n }
 | 10=>some { α:=Nat × BxI × BxI × Nat,slots:=[2,3,5,6,7,8],nb:=4,vals:=fun n=>[.ptr 0 0,.ptr 1 0,.int .i64 n.1,.ptr 2 0,.ptr 3 0,.int .i64 n.2.2.2],sS:=fun n=>⟨[some [.sl 3 (bxsL a) .no],some [.sl 3 (bxsL b) .no],some [.str n.2.1.src,.int .i64 n.2.1.next,.sl 1 (intsA n.2.1.ahead) .no],some [.str n.2.2.1.src,.int .i64 n.2.2.1.next,.sl 1 (intsA n.2.2.1.ahead) .no]],[]⟩,I:=fun n=>n.1 < a.length∧a[n.1]? = some n.2.1∧b[n.1]? = some n.2.2.1∧a.take n.1 = b.take n.1∧n.2.1.src = n.2.2.1.src∧n.2.1.next = n.2.2.1.next∧n.2.1.ahead.length = n.2.2.1.ahead.length∧n.2.2.2≤n.2.1.ahead.length∧n.2.1.ahead.take n.2.2.2 = n.2.2.1.ahead.take n.2.2.2,μ:=fun n=>n.2.1.ahead.length - n.2.2.2,link:=some fun T n=>T.getD 5 .junk = .int .i64 n.1 }
 | _=>none,nA⟩
theorem w13 (m:Int) (a b:List BxI):(pureW PI (GI m) XS (tbl []) (itbl []) (a13 a b) [] 13 [.agg [.sl 3 (bxsL a) .no],.agg [.sl 3 (bxsL b) .no]] (.bool (decide (a = b)),[])) =
((((↑(bxsL a).length : Int) != (↑(bxsL b).length : Int)) = true → RetIs (AV.bool false) [] (AV.bool (decide (a = b)), [])) ∧
  (((↑(bxsL a).length : Int) != (↑(bxsL b).length : Int)) = false →
    (∃ (y : Nat),
        ValsAre [AV.ptr ((0:Nat)) ((0:Nat)),AV.ptr ((1:Nat)) ((0:Nat)),AV.int IntKind.i64 (0:Int)]
 [AV.ptr ((0:Nat)) ((0:Nat)),AV.ptr ((1:Nat)) ((0:Nat)),AV.int IntKind.i64 (↑y:Int)] ∧
 StIs { boxes:=[some [AV.sl ((3:Nat)) (bxsL a) Own.no],some [AV.sl ((3:Nat)) (bxsL b) Own.no]],live:=[] }
 { boxes:=[some [AV.sl ((3:Nat)) (bxsL a) Own.no],some [AV.sl ((3:Nat)) (bxsL b) Own.no]],live:=[] } ∧
 (y≤a.length∧List.take y a = List.take y b)∧True) ∧
      ∀ (x:Nat),
        x≤a.length∧List.take x a = List.take x b →
 (decide ((↑x:Int) < (↑(bxsL a).length:Int)) = true →
 ((0:Int)≤(↑x:Int)∧(↑x:Int) < (↑(bxsL a).length:Int)) ∧
 ∃ (s:List UInt8),
 ∃ (n:Int),
 ∃ (es:List AV),
 takeAt PI ((75:Nat)) (bxsL a) (↑x:Int).toNat ((0:Nat)) =
 some (AV.agg [AV.str s,AV.int IntKind.i64 n,AV.sl ((1:Nat)) es Own.no]) ∧
 ((0:Int)≤(↑x:Int)∧(↑x:Int) < (↑(bxsL b).length:Int)) ∧
 ∃ (s_1:List UInt8),
 ∃ (n_1:Int),
 ∃ (es_1:List AV),
 takeAt PI ((75:Nat)) (bxsL b) (↑x:Int).toNat ((0:Nat)) =
 some (AV.agg [AV.str s_1,AV.int IntKind.i64 n_1,AV.sl ((1:Nat)) es_1 Own.no]) ∧
 ((!s == s_1) = true→RetIs (AV.bool false) [] (AV.bool (decide (a = b)),[])) ∧
 ((!s == s_1) = false →
 ((n != n_1) = true→RetIs (AV.bool false) [] (AV.bool (decide (a = b)),[])) ∧
 ((n != n_1) = false →
 (((↑es.length:Int) != (↑es_1.length:Int)) = true→RetIs (AV.bool false) [] (AV.bool (decide (a = b)),[])) ∧
 (((↑es.length:Int) != (↑es_1.length:Int)) = false →
 (∃ (y:Nat × BxI × BxI × Nat),
 ValsAre
 [AV.ptr ((0:Nat)) ((0:Nat)),AV.ptr ((1:Nat)) ((0:Nat)),AV.int IntKind.i64 (↑x:Int),
 AV.ptr ((2:Nat)) ((0:Nat)),AV.ptr ((3:Nat)) ((0:Nat)),AV.int IntKind.i64 (0:Int)]
 [AV.ptr ((0:Nat)) ((0:Nat)),AV.ptr ((1:Nat)) ((0:Nat)),AV.int IntKind.i64 (↑y.fst:Int),
 AV.ptr ((2:Nat)) ((0:Nat)),AV.ptr ((3:Nat)) ((0:Nat)),
 AV.int IntKind.i64 (↑y.snd.snd.snd:Int)] ∧
 StIs
 { boxes:=[some [AV.sl ((3:Nat)) (bxsL a) Own.no],some [AV.sl ((3:Nat)) (bxsL b) Own.no],some [AV.str s,AV.int IntKind.i64 n,AV.sl ((1:Nat)) es Own.no],some [AV.str s_1,AV.int IntKind.i64 n_1,AV.sl ((1:Nat)) es_1 Own.no]],live:=[] }
 { boxes:=[some [AV.sl ((3:Nat)) (bxsL a) Own.no],some [AV.sl ((3:Nat)) (bxsL b) Own.no],some [AV.str y.snd.fst.src,AV.int IntKind.i64 y.snd.fst.next,AV.sl ((1:Nat)) (intsA y.snd.fst.ahead) Own.no],some [AV.str y.snd.snd.fst.src,AV.int IntKind.i64 y.snd.snd.fst.next,AV.sl ((1:Nat)) (intsA y.snd.snd.fst.ahead) Own.no]],live:=[] } ∧
 (y.fst < a.length ∧
 a[y.fst]? = some y.snd.fst ∧
 b[y.fst]? = some y.snd.snd.fst ∧
 List.take y.fst a = List.take y.fst b ∧
 y.snd.fst.src = y.snd.snd.fst.src ∧
 y.snd.fst.next = y.snd.snd.fst.next ∧
 y.snd.fst.ahead.length = y.snd.snd.fst.ahead.length ∧
 y.snd.snd.snd≤y.snd.fst.ahead.length ∧
 List.take y.snd.snd.snd y.snd.fst.ahead = List.take y.snd.snd.snd y.snd.snd.fst.ahead) ∧
 AV.int IntKind.i64 (↑x:Int) = AV.int IntKind.i64 (↑y.fst:Int)) ∧
 ∀ (x_1:Nat × BxI × BxI × Nat),
 x_1.fst < a.length ∧
 a[x_1.fst]? = some x_1.snd.fst ∧
 b[x_1.fst]? = some x_1.snd.snd.fst ∧
 List.take x_1.fst a = List.take x_1.fst b ∧
 x_1.snd.fst.src = x_1.snd.snd.fst.src ∧
 x_1.snd.fst.next = x_1.snd.snd.fst.next ∧
 x_1.snd.fst.ahead.length = x_1.snd.snd.fst.ahead.length ∧
 x_1.snd.snd.snd≤x_1.snd.fst.ahead.length ∧
 List.take x_1.snd.snd.snd x_1.snd.fst.ahead =
 List.take x_1.snd.snd.snd x_1.snd.snd.fst.ahead →
 AV.int IntKind.i64 (↑x:Int) = AV.int IntKind.i64 (↑x_1.fst:Int) →
 (decide ((↑x_1.snd.snd.snd:Int) < (↑(intsA x_1.snd.fst.ahead).length:Int)) = true →
 ((0:Int)≤(↑x_1.snd.snd.snd:Int) ∧
 (↑x_1.snd.snd.snd:Int) < (↑(intsA x_1.snd.fst.ahead).length:Int)) ∧
 ∃ (n:Int),
 takeAt PI ((3:Nat)) (intsA x_1.snd.fst.ahead) (↑x_1.snd.snd.snd:Int).toNat ((0:Nat)) =
 some (AV.int IntKind.i64 n) ∧
 ((0:Int)≤(↑x_1.snd.snd.snd:Int) ∧
 (↑x_1.snd.snd.snd:Int) < (↑(intsA x_1.snd.snd.fst.ahead).length:Int)) ∧
 ∃ (n_2:Int),
 takeAt PI ((3:Nat)) (intsA x_1.snd.snd.fst.ahead) (↑x_1.snd.snd.snd:Int).toNat
 ((0:Nat)) =
 some (AV.int IntKind.i64 n_2) ∧
 ((n != n_2) = true→RetIs (AV.bool false) [] (AV.bool (decide (a = b)),[])) ∧
 ((n != n_2) = false →
 ∃ (y:Nat × BxI × BxI × Nat),
 ValsAre
 [AV.ptr ((0:Nat)) ((0:Nat)),AV.ptr ((1:Nat)) ((0:Nat)),
 AV.int IntKind.i64 (↑x_1.fst:Int),AV.ptr ((2:Nat)) ((0:Nat)),
 AV.ptr ((3:Nat)) ((0:Nat)),
 AV.int IntKind.i64 (IntKind.i64.wrap ((↑x_1.snd.snd.snd:Int) + (1:Int)))]
 [AV.ptr ((0:Nat)) ((0:Nat)),AV.ptr ((1:Nat)) ((0:Nat)),
 AV.int IntKind.i64 (↑y.fst:Int),AV.ptr ((2:Nat)) ((0:Nat)),
 AV.ptr ((3:Nat)) ((0:Nat)),AV.int IntKind.i64 (↑y.snd.snd.snd:Int)] ∧
 StIs
 { boxes:=[some [AV.sl ((3:Nat)) (bxsL a) Own.no],some [AV.sl ((3:Nat)) (bxsL b) Own.no],some [AV.str x_1.snd.fst.src,AV.int IntKind.i64 x_1.snd.fst.next,AV.sl ((1:Nat)) (intsA x_1.snd.fst.ahead) Own.no],some [AV.str x_1.snd.snd.fst.src,AV.int IntKind.i64 x_1.snd.snd.fst.next,AV.sl ((1:Nat)) (intsA x_1.snd.snd.fst.ahead) Own.no]],live:=[] }
 { boxes:=[some [AV.sl ((3:Nat)) (bxsL a) Own.no],some [AV.sl ((3:Nat)) (bxsL b) Own.no],some [AV.str y.snd.fst.src,AV.int IntKind.i64 y.snd.fst.next,AV.sl ((1:Nat)) (intsA y.snd.fst.ahead) Own.no],some [AV.str y.snd.snd.fst.src,AV.int IntKind.i64 y.snd.snd.fst.next,AV.sl ((1:Nat)) (intsA y.snd.snd.fst.ahead) Own.no]],live:=[] } ∧
 (y.fst < a.length ∧
 a[y.fst]? = some y.snd.fst ∧
 b[y.fst]? = some y.snd.snd.fst ∧
 List.take y.fst a = List.take y.fst b ∧
 y.snd.fst.src = y.snd.snd.fst.src ∧
 y.snd.fst.next = y.snd.snd.fst.next ∧
 y.snd.fst.ahead.length = y.snd.snd.fst.ahead.length ∧
 y.snd.snd.snd≤y.snd.fst.ahead.length ∧
 List.take y.snd.snd.snd y.snd.fst.ahead =
 List.take y.snd.snd.snd y.snd.snd.fst.ahead) ∧
 AV.int IntKind.i64 (↑x:Int) = AV.int IntKind.i64 (↑y.fst:Int) ∧
 y.snd.fst.ahead.length - y.snd.snd.snd <
 x_1.snd.fst.ahead.length - x_1.snd.snd.snd)) ∧
 (decide ((↑x_1.snd.snd.snd:Int) < (↑(intsA x_1.snd.fst.ahead).length:Int)) = false →
 ∃ (y:Nat),
 ValsAre
 [AV.ptr ((0:Nat)) ((0:Nat)),AV.ptr ((1:Nat)) ((0:Nat)),
 AV.int IntKind.i64 (IntKind.i64.wrap ((↑x_1.fst:Int) + (1:Int)))]
 [AV.ptr ((0:Nat)) ((0:Nat)),AV.ptr ((1:Nat)) ((0:Nat)),
 AV.int IntKind.i64 (↑y:Int)] ∧
 StIs
 { boxes:=[some [AV.sl ((3:Nat)) (bxsL a) Own.no],some [AV.sl ((3:Nat)) (bxsL b) Own.no]],live:=[] }
 { boxes:=[some [AV.sl ((3:Nat)) (bxsL a) Own.no],some [AV.sl ((3:Nat)) (bxsL b) Own.no]],live:=[] } ∧
 (y≤a.length∧List.take y a = List.take y b)∧a.length - y < a.length - x))))) ∧
 (decide ((↑x:Int) < (↑(bxsL a).length:Int)) = false→RetIs (AV.bool true) [] (AV.bool (decide (a = b)),[])))):=by kernel_rfl
theorem w39 (m:Int):(pureW PI (GI m) XS (tbl [(57,s57)]) (itbl []) nAn [] 39 [fcZ,fcZ] (.bool true,[])) =
((true = true →
    (true = true →
        (true = true →
 (true = true →
 (true = true →
 (true = true →
 ∃ (b:Bool),
 CallIs (some (AV.bool true,[])) (AV.bool b) [] ∧
 (b = true→RetIs (AV.bool true) [] (AV.bool true,[]))∧(b = false→RetIs (AV.bool false) [] (AV.bool true,[]))) ∧
 (true = false→RetIs (AV.bool false) [] (AV.bool true,[]))) ∧
 (true = false→RetIs (AV.bool false) [] (AV.bool true,[]))) ∧
 (true = false→RetIs (AV.bool false) [] (AV.bool true,[]))) ∧
 (true = false→RetIs (AV.bool false) [] (AV.bool true,[]))) ∧
      (true = false→RetIs (AV.bool false) [] (AV.bool true,[]))) ∧
  (true = false→RetIs (AV.bool false) [] (AV.bool true,[]))):=by kernel_rfl
theorem w12 (m:Int) (s s':List UInt8) (a a':Bool) (n n':Int):(pureW PI (GI m) XS (tbl [(39,s39)]) (itbl []) nAn [] 12 [pkZ s a n,pkZ s' a' n'] (.bool (decide (s = s'∧a = a'∧n = n')),[])) =
(((s == s') = true →
    (a = true →
        (a' = true →
 (true = true →
 ((n == n') = true →
 ∃ (b:Bool),
 CallIs (some (AV.bool true,[])) (AV.bool b) [] ∧
 (b = true→RetIs (AV.bool true) [] (AV.bool (decide (s = s'∧a = a'∧n = n')),[])) ∧
 (b = false→RetIs (AV.bool false) [] (AV.bool (decide (s = s'∧a = a'∧n = n')),[]))) ∧
 ((n == n') = false→RetIs (AV.bool false) [] (AV.bool (decide (s = s'∧a = a'∧n = n')),[]))) ∧
 (true = false→RetIs (AV.bool false) [] (AV.bool (decide (s = s'∧a = a'∧n = n')),[]))) ∧
 (a' = false →
 (false = true →
 ((n == n') = true →
 ∃ (b:Bool),
 CallIs (some (AV.bool true,[])) (AV.bool b) [] ∧
 (b = true→RetIs (AV.bool true) [] (AV.bool (decide (s = s'∧a = a'∧n = n')),[])) ∧
 (b = false→RetIs (AV.bool false) [] (AV.bool (decide (s = s'∧a = a'∧n = n')),[]))) ∧
 ((n == n') = false→RetIs (AV.bool false) [] (AV.bool (decide (s = s'∧a = a'∧n = n')),[]))) ∧
 (false = false→RetIs (AV.bool false) [] (AV.bool (decide (s = s'∧a = a'∧n = n')),[])))) ∧
      (a = false →
        (a' = true →
 (false = true →
 ((n == n') = true →
 ∃ (b:Bool),
 CallIs (some (AV.bool true,[])) (AV.bool b) [] ∧
 (b = true→RetIs (AV.bool true) [] (AV.bool (decide (s = s'∧a = a'∧n = n')),[])) ∧
 (b = false→RetIs (AV.bool false) [] (AV.bool (decide (s = s'∧a = a'∧n = n')),[]))) ∧
 ((n == n') = false→RetIs (AV.bool false) [] (AV.bool (decide (s = s'∧a = a'∧n = n')),[]))) ∧
 (false = false→RetIs (AV.bool false) [] (AV.bool (decide (s = s'∧a = a'∧n = n')),[]))) ∧
 (a' = false →
 (true = true →
 ((n == n') = true →
 ∃ (b:Bool),
 CallIs (some (AV.bool true,[])) (AV.bool b) [] ∧
 (b = true→RetIs (AV.bool true) [] (AV.bool (decide (s = s'∧a = a'∧n = n')),[])) ∧
 (b = false→RetIs (AV.bool false) [] (AV.bool (decide (s = s'∧a = a'∧n = n')),[]))) ∧
 ((n == n') = false→RetIs (AV.bool false) [] (AV.bool (decide (s = s'∧a = a'∧n = n')),[]))) ∧
 (true = false→RetIs (AV.bool false) [] (AV.bool (decide (s = s'∧a = a'∧n = n')),[]))))) ∧
  ((s == s') = false→RetIs (AV.bool false) [] (AV.bool (decide (s = s'∧a = a'∧n = n')),[]))):=by kernel_rfl
end Go.Abs
namespace Go.Abs
open Go.Proofs Go.RowKit Go.Sort
theorem o57 (m:Int):SpecOk PI (GI m) 57 s57:=spec_run mixedI tbl_nil fun args r h=>by
 unfold s57 at h
 split at h
 case h_2=>cases h
 split at h
 case isFalse=>cases h
 rename_i hz
 obtain ⟨rfl,rfl⟩:=hz
 injection h with h; subst h
 exact ⟨4,by kernel_rfl⟩
theorem p39 (m:Int):PureOk PI (GI m) XS (tbl [(57,s57)]) (itbl []) nAn [] 39 [fcZ,fcZ] (.bool true,[]):=by
 constructor
 rw [w39]
 simp [callIs_iff,retIs_iff]
theorem o39 (m:Int):SpecOk PI (GI m) 39 s39:=spec_of (X:=XS) (m:=[]) mixedI (tbl_cons (o57 m) tbl_nil) itbl_nil fun args r h=>by
 unfold s39 at h
 split at h
 case h_2=>cases h
 split at h
 case isFalse=>cases h
 rename_i hz
 obtain ⟨rfl,rfl,rfl,rfl,rfl,rfl,rfl,rfl,rfl,rfl⟩:=hz
 injection h with h; subst h
 exact ⟨_,p39 m⟩
theorem p12 (m:Int) (s s':List UInt8) (a a':Bool) (n n':Int):PureOk PI (GI m) XS (tbl [(39,s39)]) (itbl []) nAn [] 12 [pkZ s a n,pkZ s' a' n'] (.bool (decide (s = s'∧a = a'∧n = n')),[]):=by
 constructor
 rw [w12]
 by_cases h1:s = s' <;> by_cases h2:n = n' <;> cases a <;> cases a' <;> simp [h1,h2,callIs_iff,retIs_iff]
theorem o12 (m:Int):SpecOk PI (GI m) 12 s12:=spec_of (X:=XS) (m:=[]) mixedI (tbl_cons (o39 m) tbl_nil) itbl_nil fun args r h=>by
 unfold s12 at h
 split at h
 case h_2=>cases h
 split at h
 case isFalse=>cases h
 rename_i hz
 obtain ⟨rfl,rfl,rfl,rfl,rfl,rfl,rfl,rfl,rfl,rfl⟩:=hz
 injection h with h; subst h
 exact ⟨_,p12 m _ _ _ _ _ _⟩
end Go.Abs
namespace Go.Abs
open Go.Proofs Go.RowKit
theorem take_next {α:Type} {a b:List α} {x:Nat} {p:α} (ha:a[x]? = some p) (hb:b[x]? = some p) (h:a.take x = b.take x):a.take (x + 1) = b.take (x + 1):=by
 obtain ⟨h1,h2⟩:=List.getElem?_eq_some_iff.1 ha
 obtain ⟨k1,k2⟩:=List.getElem?_eq_some_iff.1 hb
 rw [List.take_succ_eq_append_getElem h1,List.take_succ_eq_append_getElem k1,h,h2,k2]
theorem ne_of_at {α:Type} {a b:List α} {x:Nat} {p q:α} (ha:a[x]? = some p) (hb:b[x]? = some q) (h:p ≠ q):a ≠ b:=fun e=>by
 subst e; rw [ha] at hb; injection hb with hb; exact h hb
theorem bx_ext {p q:BxI} (h1:p.src = q.src) (h2:p.next = q.next) (h3:p.ahead = q.ahead):p = q:=by
 cases p; cases q; simp_all
theorem p13 (m:Int) (a b:List BxI) (hl:a.length≤140737488351232) (ha:∀ p ∈ a,p.ahead.length≤140737488351232):PureOk PI (GI m) XS (tbl []) (itbl []) (a13 a b) [] 13 [.agg [.sl 3 (bxsL a) .no],.agg [.sl 3 (bxsL b) .no]] (.bool (decide (a = b)),[]):=by
 constructor
 rw [w13]
 have hla:(bxsL a).length = a.length:=List.length_map ..
 have hlb:(bxsL b).length = b.length:=List.length_map ..
 rw [hla,hlb]
 refine ⟨fun h=>⟨?_⟩,fun h=>⟨⟨0,⟨rfl⟩,⟨rfl⟩,⟨Nat.zero_le _,rfl⟩,trivial⟩,fun x ⟨hx,ht⟩=>⟨fun h2=>?_,fun h2=>⟨?_⟩⟩⟩⟩
 ·rw [decide_eq_false]
  rintro rfl
  simp at h
 ·have hlen:a.length = b.length:=by simp at h; omega
  have h2:=of_decide_eq_true h2
  have hxa:x < a.length:=by omega
  have hxb:x < b.length:=by omega
  have hA:a[x]? = some a[x]:=List.getElem?_eq_getElem hxa
  have hB:b[x]? = some b[x]:=List.getElem?_eq_getElem hxb
  have hia:(intsA a[x].ahead).length = a[x].ahead.length:=List.length_map ..
  have hib:(intsA b[x].ahead).length = b[x].ahead.length:=List.length_map ..
  refine ⟨⟨by omega,by omega⟩,_,_,_,by rw [Int.toNat_natCast]; exact take_bx hxa,⟨by omega,by omega⟩,_,_,_,by rw [Int.toNat_natCast]; exact take_bx hxb,fun h3=>⟨?_⟩,fun h3=>⟨fun h4=>⟨?_⟩,fun h4=>⟨fun h5=>⟨?_⟩,fun h5=>⟨⟨(x,a[x],b[x],0),⟨rfl⟩,⟨rfl⟩,⟨hxa,hA,hB,ht,by simpa using h3,by simpa using h4,?_,Nat.zero_le _,rfl⟩,rfl⟩,fun z hz hlk=>?_⟩⟩⟩⟩
  ·rw [decide_eq_false]
   exact ne_of_at hA hB fun e=>by rw [e] at h3; simp at h3
  ·rw [decide_eq_false]
   exact ne_of_at hA hB fun e=>by rw [e] at h4; simp at h4
  ·rw [decide_eq_false]
   exact ne_of_at hA hB fun e=>by rw [e] at h5; simp at h5
  ·rw [hia,hib] at h5
   simp at h5
   exact_mod_cast h5
  ·obtain ⟨i,p,q,k⟩:=z
   simp only at hz hlk ⊢
   have hxi:x = i:=by
    simp only [AV.int.injEq,true_and] at hlk
    omega
   obtain ⟨z1,z2,z3,z4,z5,z6,z7,z8,z9⟩:=hz
   have hpl:=ha p (List.mem_of_getElem? z2)
   have hip:(intsA p.ahead).length = p.ahead.length:=List.length_map ..
   have hiq:(intsA q.ahead).length = q.ahead.length:=List.length_map ..
   rw [hip,hiq]
   refine ⟨fun h6=>?_,fun h6=>⟨i + 1,⟨by rw [wrapN (by omega)]⟩,⟨rfl⟩,⟨by omega,?_⟩,?_⟩⟩
   ·have h6:=of_decide_eq_true h6
    have hkp:k < p.ahead.length:=by omega
    have hkq:k < q.ahead.length:=by omega
    have hP:p.ahead[k]? = some p.ahead[k]:=List.getElem?_eq_getElem hkp
    have hQ:q.ahead[k]? = some q.ahead[k]:=List.getElem?_eq_getElem hkq
    refine ⟨⟨by omega,by omega⟩,_,by rw [Int.toNat_natCast]; exact take_i hkp,⟨by omega,by omega⟩,_,by rw [Int.toNat_natCast]; exact take_i hkq,fun h7=>⟨?_⟩,fun h7=>⟨(i,p,q,k + 1),⟨by rw [wrapN (by omega)]⟩,⟨rfl⟩,⟨z1,z2,z3,z4,z5,z6,z7,by show k + 1≤p.ahead.length; omega,?_⟩,hlk,by show p.ahead.length - (k + 1) < p.ahead.length - k; omega⟩⟩
    ·rw [decide_eq_false]
     refine ne_of_at z2 z3 fun e=>?_
     subst e
     simp at h7
    ·have h7:p.ahead[k] = q.ahead[k]:=by simpa using h7
     exact take_next hP (by rw [hQ,h7]) z9
   ·have h6:=of_decide_eq_false h6
    have hk:k = p.ahead.length:=by omega
    have hpq:p.ahead = q.ahead:=by
     rw [hk,List.take_length,z7,List.take_length] at z9; exact z9
    have e:p = q:=bx_ext z5 z6 hpq
    subst e
    exact take_next z2 z3 z4
   ·omega
 ·have hlen:a.length = b.length:=by simp at h; omega
  have h2:=of_decide_eq_false h2
  have hxe:x = a.length:=by omega
  rw [hxe,List.take_length,hlen,List.take_length] at ht
  rw [decide_eq_true ht]
theorem o13z (m:Int):SpecOk PI (GI m) 13 (fun args=>match args with | [.agg [.sl sz [] .nil],.agg [.sl sz2 [] .nil]]=>if sz = 0∧sz2 = 0 then some (.bool true,[]) else none | _=>none):=spec_run mixedI tbl_nil fun args r h=>by
 split at h
 case h_2=>cases h
 split at h
 case isFalse=>cases h
 rename_i hz
 obtain ⟨rfl,rfl⟩:=hz
 injection h with h; subst h
 exact ⟨4,by kernel_rfl⟩
theorem o13 (m:Int):SpecOk PI (GI m) 13 s13:=by
 have h1:SpecOk PI (GI m) 13 (fun args=>match args with
   | [.agg [.sl sz es .no],.agg [.sl sz2 es2 .no]]=>if sz = 3∧sz2 = 3 then (match unL unB es,unL unB es2 with
    | some a,some b=>if a.length≤140737488351232∧(a.all fun b=>decide (b.ahead.length≤140737488351232)) = true∧(b.all fun b=>decide (b.ahead.length≤140737488351232)) = true then some (.bool (decide (a = b)),[]) else none
    | _,_=>none) else none
   | _=>none):=spec_of (X:=XS) (m:=[]) mixedI tbl_nil itbl_nil fun args r h=>by
  split at h
  case h_2=>cases h
  split at h
  case isFalse=>cases h
  rename_i hz
  obtain ⟨rfl,rfl⟩:=hz
  split at h
  case h_2=>cases h
  rename_i a b ha hb
  split at h
  case isFalse=>cases h
  rename_i hc
  injection h with h; subst h
  obtain rfl:=unBs_inv ha
  obtain rfl:=unBs_inv hb
  refine ⟨_,p13 m a b hc.1 fun p hp=>?_⟩
  have:=List.all_eq_true.1 hc.2.1 p hp
  simpa using this
 intro g args r lv hr
 by_cases e:g = 13
 ·subst e
  simp only [if_true] at hr
  unfold s13 at hr
  split at hr
  ·rename_i sz es sz2 es2
   exact h1 13 _ r lv (by simp only [if_true]; exact hr)
  ·rename_i sz sz2
   exact o13z m 13 _ r lv (by simp only [if_true]; exact hr)
  ·cases hr
 ·simp only [if_neg e] at hr
  cases hr
def smallB (f:FcI):Bool:=decide (f.src.length + f.table.length + f.key.length≤300) && decide (f.fs.length≤12) && f.fs.all fun v=>decide (v.s.length≤200)
def s9:Spec:=fun args=>match args with
 | [.agg [.str src,.int .i64 seq,.int .i64 kind,.int .i64 ref,.str table,.str key,.int .i64 event,.sl sz es .no]]=>if sz = 3 then (match unL unV es with
  | some fs=>if src.length≤140737488351232∧table.length≤140737488351232∧key.length≤140737488351232∧fs.length≤140737488351232 then some (.bool (smallB ⟨src,seq,kind,ref,table,key,event,fs⟩),[]) else none
  | none=>none) else none
 | _=>none
structure RcvW where
 r:List BxI
 fresh:Bool
 src:List UInt8
 ack:Bool
 next:Int
 code:Int
deriving DecidableEq
def recvW:RcvO→RcvW
 | .err c=>⟨[],false,[],false,0,c⟩
 | .out r fresh s n=>⟨r,fresh,s,true,n,0⟩
def rcvWA (x:RcvW):AV:=.tup [rcA x.r,.bool x.fresh,pkZ x.src x.ack x.next,.int .i64 x.code]
theorem SpecOk.lax {P:Program} {G:Glob} {f:FuncId} {s s':Spec} (hs:SpecOk P G f s) (h:∀ args r',s' args = some r'→∃ r,s args = some (r,[])∧Lax2 r r'.1∧r'.2 = []):SpecOk P G f s':=by
 intro g args r' lv hr
 by_cases e:g = f
 ·subst e
  simp only [if_true] at hr
  obtain ⟨r,h1,h2,h3⟩:=h args _ hr
  simp only at h2 h3
  subst h3
  intro E w vs hI hG hn hv hcl
  refine (hs g args r [] (by simp only [if_true]; exact h1) E w vs hI hG hn hv hcl).mono ?_
  rintro e w' ⟨v,he,I',k1,k2,k3,k4⟩
  refine ⟨v,he,I',k1,k2,k3,.inl ⟨rfl,fun B K=>?_⟩⟩
  rcases k4 with ⟨_,k4⟩ | ⟨n,e',hv',sz,xs,k5,_⟩
  ·exact h2.rep (k4 B K)
  ·cases k5
 ·simp only [if_neg e] at hr
  cases hr
def wk0:AV→AV
 | .sl _ [] _=>.sl 3 [] .no
 | a=>a
def wk1:AV→AV
 | .agg cs=>.agg (cs.map wk0)
 | a=>wk0 a
theorem wk0_rep {E:Env} {w:World} {a:AV} {v:Value} (h:Rep E w a v):Rep E w (wk0 a) v:=by
 unfold wk0
 split
 ·cases h with
  | sl _ _ _ A cap u hcap hmax hA hsz hcl ho hr h1 =>
   exact .sl 3 [] .no A cap u hcap hmax (.inl rfl) (by simp) (by simp) trivial (fun i e j c hi=>by simp at hi) h1
 ·exact h
theorem wk0_closed {a:AV} (h:a.closed = true):(wk0 a).closed = true:=by
 unfold wk0
 split
 ·rfl
 ·exact h
theorem wk1_rep {E:Env} {w:World} {a:AV} {v:Value} (h:Rep E w a v):Rep E w (wk1 a) v:=by
 unfold wk1
 split
 ·rename_i cs
  cases h with
  | agg _ vs hn h1 hc =>
   refine .agg _ vs (by simp [hn]) h1 fun i c v hi hv=>?_
   rw [List.getElem?_map] at hi
   cases hc':cs[i]? with
   | none=>rw [hc'] at hi; cases hi
   | some c0 =>
    rw [hc'] at hi
    injection hi with hi; subst hi
    exact wk0_rep (hc i c0 v hc' hv)
 ·exact wk0_rep h
theorem wk1_closed {a:AV} (h:a.closed1 = true):(wk1 a).closed1 = true:=by
 unfold wk1
 split
 ·simp only [AV.closed1,List.all_eq_true,List.mem_map] at h ⊢
  rintro c ⟨d,hd,rfl⟩
  exact wk0_closed (h d hd)
 ·rename_i hne
  have:a.closed = true:=by
   cases a <;> simp_all [AV.closed1]
  exact closed_closed1 (wk0_closed this)
theorem SpecOk.wk {P:Program} {G:Glob} {f:FuncId} {s:Spec} (hs:SpecOk P G f s):SpecOk P G f fun args=>s (args.map wk1):=by
 intro g args r lv hr E w vs hI hG hn hv hcl
 refine hs g (args.map wk1) r lv hr E w vs hI hG (by simpa using hn) (fun i c v hi hv'=>?_) fun c hc=>?_
 ·rw [List.getElem?_map] at hi
  cases ha:args[i]? with
  | none=>rw [ha] at hi; cases hi
  | some a =>
   rw [ha] at hi
   injection hi with hi; subst hi
   exact wk1_rep (hv i a v ha hv')
 ·obtain ⟨a,ha,rfl⟩:=List.mem_map.1 hc
  exact wk1_closed (hcl a ha)
def s12w:Spec:=fun args=>s12 (args.map wk1)
theorem o12w (m:Int):SpecOk PI (GI m) 12 s12w:=(o12 m).wk
def s10w:Spec:=fun args=>match args with
 | [.agg [.sl sz es o],.agg [.str src,.bool ack,.int .i64 next,.str fsrc,.int .i64 seq,.int .i64 _,.int .i64 _,.str _,.str _,.int .i64 _,.sl _ _ _]] =>
  if src.length≤2000000 then (match rcvOf sz es o with
   | some r=>if rcvOk r = true then some (rcvWA (recvW (recvP r ⟨src,ack,next,fsrc,seq⟩)),[]) else none
   | none=>none) else none
 | _=>none
def s11w:Spec:=fun args=>match args with
 | [.agg [.sl sz es .no],.agg [.str src,.bool ack,.int .i64 next,.str fsrc,.int .i64 seq,.int .i64 _,.int .i64 _,.str _,.str _,.int .i64 _,.sl _ _ _]] =>
  if src.length≤2000000∧sz = 3 then (match unL unB es with
   | some r=>if rcvOk r = true then some (rcvWA (recvW (recvP r ⟨src,ack,next,fsrc,seq⟩)),[]) else none
   | none=>none) else none
 | _=>none
theorem lax_recv (x:RcvO):∃ r,recvR x = (r,[])∧Lax2 r (rcvWA (recvW x)):=by
 cases x with
 | err c=>exact ⟨_,rfl,by simp [rcvWA,recvW,rcA,Lax2,Lax1,Lax0,all2]⟩
 | out r fresh s n=>exact ⟨_,rfl,by simp [rcvWA,recvW,rcA,Lax2,Lax1,Lax0,all2]⟩
theorem o10w (m:Int):SpecOk PI (GI m) 10 s10w:=(o10 m).lax fun args r' h=>by
 unfold s10w at h
 split at h
 case h_2=>cases h
 rename_i sz es o src ack next fsrc seq kind ref tab key ev sz2 es2 o2
 split at h
 case isFalse=>cases h
 rename_i hl
 split at h
 case h_2=>cases h
 rename_i r hr
 split at h
 case isFalse=>cases h
 rename_i hok
 injection h with h; subst h
 obtain ⟨x,h1,h2⟩:=lax_recv (recvP r ⟨src,ack,next,fsrc,seq⟩)
 refine ⟨x,?_,h2,rfl⟩
 simp only [s10]
 rw [if_pos hl,hr]
 simp only
 rw [if_pos hok,h1]
end Go.Abs
namespace Go.Abs
open Go.Proofs
end Go.Abs
namespace Go.Abs
open Go.Proofs Go.RowKit
theorem unV_inv (a:AV) (v:VaI) (h:unV a = some v):a = vaA v:=by
 unfold unV at h
 split at h
 ·injection h with h; subst h; rfl
 ·cases h
end Go.Abs
namespace Go.Abs
open Go.Proofs Go.RowKit Go.Sort
theorem runS_facts:∀ {S:List Int} {x:Int},S.Pairwise (· < ·)→(∀ y ∈ S,x≤y)→x≤(runS S x).1∧(runS S x).2.Pairwise (· < ·)∧(∀ y ∈ (runS S x).2,y ∈ S∧(runS S x).1 < y)∧((runS S x).1 = x∨(runS S x).1 - 1 ∈ S)
 | [],x,_,_=>by simp [runS]
 | z :: S,x,hS,hx=>by
  obtain ⟨k1,k2⟩:=List.pairwise_cons.1 hS
  simp only [runS]
  split
  ·rename_i hz
   subst hz
   obtain ⟨h1,h2,h3,h4⟩:=runS_facts (x:=z + 1) k2 fun y hy=>by have:=k1 y hy; omega
   refine ⟨by omega,h2,fun y hy=>⟨List.mem_cons_of_mem _ (h3 y hy).1,(h3 y hy).2⟩,.inr ?_⟩
   rcases h4 with h4 | h4
   ·rw [h4]; simp
   ·exact List.mem_cons_of_mem _ h4
  ·rename_i hz
   refine ⟨Int.le_refl _,hS,fun y hy=>⟨hy,?_⟩,.inl rfl⟩
   simp only
   have h0:=hx z (by simp)
   rcases List.mem_cons.1 hy with rfl | hy
   ·omega
   ·have:=k1 y hy; omega
theorem arr_ok {b:BxI} {n:Int} (hb:BoxP b) (h1:b.next≤n) (h2:n≤b.next + 64) (h3:n≤maxT) (h4:n ∉ b.ahead):BoxP (arrB b n):=by
 have hS:=insI_sorted hb.asc h4
 obtain ⟨k1,k2,k3,k4⟩:=runS_facts (x:=b.next) hS fun y hy=>by
  rcases mem_insI.1 hy with rfl | hy
  ·exact h1
  ·have:=(hb.all y hy).1; omega
 have hlo:=hb.lo
 have hhi:=hb.hi
 refine ⟨hb.name,?_,?_,k2,fun x hx=>?_⟩
 ·show 1≤(runS (insI n b.ahead) b.next).1
  omega
 ·show (runS (insI n b.ahead) b.next).1≤maxT + 1
  rcases k4 with k4 | k4
  ·omega
  ·rcases mem_insI.1 k4 with e | e
   ·omega
   ·have:=(hb.all _ e).2.2; omega
 ·obtain ⟨e1,e2⟩:=k3 x hx
  refine ⟨e2,?_,?_⟩
  ·show x≤(runS (insI n b.ahead) b.next).1 + 64
   rcases mem_insI.1 e1 with rfl | e
   ·omega
   ·have:=(hb.all x e).2.1; omega
  ·rcases mem_insI.1 e1 with rfl | e
   ·exact h3
   ·exact (hb.all x e).2.2
structure RcvP (r:List BxI):Prop where
 box:∀ b ∈ r,BoxP b
 asc:r.Pairwise fun a b=>a.src < b.src
 len:r.length≤16
theorem rcvOk_iff {r:List BxI}:rcvOk r = true ↔ RcvP r:=by
 simp only [rcvOk,Bool.and_eq_true,List.all_eq_true,srcLt,decide_eq_true_eq]
 exact ⟨fun ⟨⟨h1,h2⟩,h3⟩=>⟨fun b hb=>boxOk_iff.1 (h1 b hb),h2,h3⟩,fun h=>⟨⟨fun b hb=>boxOk_iff.2 (h.box b hb),h.asc⟩,h.len⟩⟩
theorem pw_split {r:List BxI} {i:Nat} (h:r.Pairwise fun a b=>a.src < b.src) (c:BxI) (h1:∀ b ∈ r.take i,b.src < c.src) (j:Nat) (_hj:i≤j) (h2:∀ b ∈ r.drop j,c.src < b.src):(r.take i ++ [c] ++ r.drop j).Pairwise fun a b=>a.src < b.src:=by
 rw [List.append_assoc]
 refine List.pairwise_append.2 ⟨h.sublist (List.take_sublist _ _),List.pairwise_append.2 ⟨by simp,h.sublist (List.drop_sublist _ _),fun a ha b hb=>?_⟩,fun a ha b hb=>?_⟩
 ·simp at ha; subst ha; exact h2 b hb
 ·rcases List.mem_append.1 hb with hb | hb
  ·simp at hb; subst hb; exact h1 a ha
  ·exact List.lt_trans (h1 a ha) (h2 b hb)
theorem low_take {r:List BxI} {t:List UInt8}:∀ b ∈ r.take (lowB r t),b.src < t:=fun b hb=>by
 obtain ⟨i,hi,rfl⟩:=List.mem_iff_getElem.1 hb
 have hil:i < lowB r t:=by rw [List.length_take] at hi; omega
 obtain ⟨_,h⟩:=tw_at (p:=fun b:BxI=>Op.bytesLess b.src t) (l:=r) hil
 rw [List.getElem_take]
 simpa [bytesLess_eq] using h
theorem low_drop {r:List BxI} {t:List UInt8} (h:r.Pairwise fun a b=>a.src < b.src) (ho:oldB r t = false):∀ b ∈ r.drop (lowB r t),t < b.src:=fun b hb=>by
 obtain ⟨i,hi,rfl⟩:=List.mem_iff_getElem.1 hb
 rw [List.length_drop] at hi
 have hl:lowB r t < r.length:=by omega
 have h0:¬ (r[lowB r t]).src < t:=fun hlt=>by
  have:=low_lt (Nat.le_refl _) hl (by simpa [bytesLess_eq] using hlt)
  omega
 have h1:(r[lowB r t]).src ≠ t:=fun e=>by
  rw [old_iff hl] at ho
  simp [e] at ho
 have h2:t < (r[lowB r t]).src:=by
  by_cases h':t < (r[lowB r t]).src
  ·exact h'
  ·exact absurd (List.le_antisymm (List.not_lt.1 h') (List.not_lt.1 h0)) h1
 rw [List.getElem_drop]
 rcases Nat.eq_zero_or_pos i with h3 | h3
 ·subst h3; simpa using h2
 ·exact List.lt_trans h2 (List.pairwise_iff_getElem.1 h _ _ hl (by omega) (by omega))
theorem recv_ok {r r':List BxI} {p:PkQ} {f:Bool} {s:List UInt8} {n:Int} (hr:RcvP r) (h:recvP r p = .out r' f s n):RcvP r':=by
 unfold recvP at h
 split at h
 ·cases h
 rename_i hbad
 split at h
 ·cases h
 rename_i hfull
 split at h
 ·cases h
 rename_i hgap
 split at h
 ·injection h with h; subst h; exact hr
 rename_i hnew
 injection h with h h' h'' h'''
 subst h
 have hbad':badP p = false:=by simpa using hbad
 simp only [badP,Bool.or_eq_false_iff,Bool.not_eq_false'] at hbad'
 obtain ⟨⟨⟨⟨⟨b1,b2⟩,b3⟩,b4⟩,b5⟩,b6⟩:=hbad'
 have b5:=of_decide_eq_false b5
 have b6:=of_decide_eq_false b6
 have hn1:¬ p.seq < (bOf r p.src).next:=fun h=>hnew (.inl h)
 have hn2:p.seq ∉ (bOf r p.src).ahead:=fun h=>hnew (.inr h)
 cases ho:oldB r p.src with
 | true =>
  obtain ⟨hlt,hsrc⟩:=old_at ho
  have hbO:bOf r p.src = r[lowB r p.src]:=by
   unfold bOf
   rw [if_pos ho,List.getD_eq_getElem?_getD,List.getElem?_eq_getElem hlt]; rfl
  rw [hbO] at hgap hn1 hn2 ⊢
  have hB:=hr.box _ (List.getElem_mem hlt)
  have hA:=arr_ok hB (by omega) (by omega) (by omega) hn2
  simp only [if_true]
  refine ⟨fun b hb=>?_,?_,?_⟩
  ·simp only [List.mem_append,List.mem_singleton] at hb
   rcases hb with (hb | rfl) | hb
   ·exact hr.box b (List.mem_of_mem_take hb)
   ·exact hA
   ·exact hr.box b (List.mem_of_mem_drop hb)
  ·refine pw_split hr.asc _ (fun b hb=>?_) _ (by omega) fun b hb=>?_
   ·show b.src < (r[lowB r p.src]).src
    rw [hsrc]; exact low_take b hb
   ·show (r[lowB r p.src]).src < b.src
    obtain ⟨i,hi,rfl⟩:=List.mem_iff_getElem.1 hb
    rw [List.length_drop] at hi
    rw [List.getElem_drop]
    exact List.pairwise_iff_getElem.1 hr.asc _ _ hlt (by omega) (by omega)
  ·have:=hr.len
   simp only [List.length_append,List.length_take,List.length_drop,List.length_singleton]; omega
 | false =>
  have hbO:bOf r p.src = ⟨p.src,1,[]⟩:=by
   unfold bOf
   rw [if_neg (by simp [ho])]
  rw [hbO] at hgap hn1 hn2 ⊢
  simp only at hgap hn1
  have hB:BoxP ⟨p.src,1,[]⟩:=⟨b3,Int.le_refl _,by show (1:Int)≤maxT + 1; unfold maxT; omega,List.Pairwise.nil,fun x hx=>by cases hx⟩
  have hA:=arr_ok hB (by show (1:Int)≤_; omega) (by show _≤(1:Int) + 64; omega) (by omega) hn2
  rw [ho] at hfull
  simp only [Bool.false_eq_true,if_false]
  refine ⟨fun b hb=>?_,?_,?_⟩
  ·simp only [List.mem_append,List.mem_singleton] at hb
   rcases hb with (hb | rfl) | hb
   ·exact hr.box b (List.mem_of_mem_take hb)
   ·exact hA
   ·exact hr.box b (List.mem_of_mem_drop hb)
  ·exact pw_split hr.asc _ (fun b hb=>low_take (t:=p.src) b hb) _ (Nat.le_refl _) fun b hb=>low_drop (t:=p.src) hr.asc ho b hb
  ·have hlen:¬ 16≤r.length:=by simpa using hfull
   have:=low_le r p.src
   simp only [List.length_append,List.length_take,List.length_drop,List.length_singleton]; omega
end Go.Abs
namespace Go.Abs
open Go.Proofs
def s7:Spec:=fun args=>match args with
 | []=>some (.bool true,[])
 | _=>none
def shRc:Sh × Option TypeId:=(.tup [.agg [.sl 3 .no],.one .bool,.agg [.str,.bool,.int .i64,.is (.str []),.is (.int .i64 0),.is (.int .i64 0),.is (.int .i64 0),.is (.str []),.is (.str []),.is (.int .i64 0),.is (.sl 3 [] .no)],.one (.int .i64)],none)
def X3:Shapes:=fun f=>match f with
 | 7 | 8 | 9 | 12 | 13=>some shB
 | 10 | 11=>some shRc
 | _=>none
def pkQ (p:PkI):PkQ:=⟨p.src,p.ack,p.next,p.f.src,p.f.seq⟩
abbrev t3:List (FuncId × Spec):=[(7,s7),(8,s8),(9,s9),(10,s10w),(11,s11w),(12,s12w),(13,s13)]
def a3 (r:List BxI) (ps:List PkI):Anns:=⟨fun k=>if k = 7 then some { α:=Nat × List BxI,slots:=[1,5,6,7],nb:=3,vals:=fun n=>[.sl 11 (pksL ps) .no,.ptr 1 0,.ptr 2 0,.int .i64 n.1],sS:=fun n=>⟨[some [.sl 3 (bxsL r) .no],some [.sl 3 (bxsL n.2) .no],some [.sl 3 (bxsL n.2) .no]],[]⟩,I:=fun n=>n.1≤ps.length∧ps.length≤40∧rcvOk n.2 = true,μ:=fun n=>ps.length - n.1 } else none,nA⟩
def sentA (s:List UInt8) (n:Int):AV:=.agg [.str s,.bool false,.int .i64 0,.str s,.int .i64 n,.int .i64 0,.int .i64 0,.str [],.str [],.int .i64 0,.sl 0 [] .nil]
def s24:Spec:=fun args=>match args with
 | [.str s,.int .i64 n]=>some (sentA s n,[])
 | _=>none
def s20:Spec:=fun args=>match args with
 | [.str s]=>if s.length≤2000000 then some (.tup [if nameR s then .agg [.str s,.int .i64 1,.sl 0 [] .nil] else .agg [.str [],.int .i64 0,.sl 0 [] .nil],.int .i64 (if nameR s then 0 else 1)],[]) else none
 | _=>none
structure MkI where
 s:List UInt8
 n:Int
deriving DecidableEq,Inhabited
def mkA (k:MkI):AV:=.agg [.str k.s,.int .i64 k.n]
abbrev mksL (l:List MkI):List AV:=l.map mkA
def unM:AV→Option MkI
 | .agg [.str s,.int .i64 n]=>some ⟨s,n⟩
 | _=>none
def s14:Spec:=fun args=>match args with
 | [.sl sz es .no,.sl sz2 es2 .no]=>if sz = 2∧sz2 = 2 then (match unL unM es,unL unM es2 with
  | some a,some b=>if a.length≤2000000 then some (.bool (decide (a = b)),[]) else none
  | _,_=>none) else none
 | _=>none
def XM:Shapes:=fun _=>none
def a14 (a b:List MkI):Anns:=⟨fun k=>if k = 4 then some { α:=Nat,slots:=[0,1,5],nb:=0,vals:=fun n=>[.sl 2 (mksL a) .no,.sl 2 (mksL b) .no,.int .i64 n],sS:=fun _=>⟨[],[]⟩,I:=fun n=>n≤a.length∧a.take n = b.take n,μ:=fun n=>a.length - n } else none,nA⟩
theorem w14 (m:Int) (a b:List MkI):(pureW PI (GI m) XM (tbl []) (itbl []) (a14 a b) [] 14 [.sl 2 (mksL a) .no,.sl 2 (mksL b) .no] (.bool (decide (a = b)),[])) =
((((↑(mksL a).length : Int) != (↑(mksL b).length : Int)) = true → RetIs (AV.bool false) [] (AV.bool (decide (a = b)), [])) ∧
  (((↑(mksL a).length : Int) != (↑(mksL b).length : Int)) = false →
    (∃ (y : Nat),
        ValsAre [AV.sl ((2:Nat)) (mksL a) Own.no,AV.sl ((2:Nat)) (mksL b) Own.no,AV.int IntKind.i64 (0:Int)]
 [AV.sl ((2:Nat)) (mksL a) Own.no,AV.sl ((2:Nat)) (mksL b) Own.no,AV.int IntKind.i64 (↑y:Int)] ∧
 StIs { boxes:=[],live:=[] } { boxes:=[],live:=[] }∧(y≤a.length∧List.take y a = List.take y b)∧True) ∧
      ∀ (x:Nat),
        x≤a.length∧List.take x a = List.take x b →
 (decide ((↑x:Int) < (↑(mksL a).length:Int)) = true →
 ((0:Int)≤(↑x:Int)∧(↑x:Int) < (↑(mksL a).length:Int)) ∧
 ∃ (s:List UInt8),
 ∃ (n:Int),
 takeAt PI ((93:Nat)) (mksL a) (↑x:Int).toNat ((0:Nat)) = some (AV.agg [AV.str s,AV.int IntKind.i64 n]) ∧
 ((0:Int)≤(↑x:Int)∧(↑x:Int) < (↑(mksL b).length:Int)) ∧
 ∃ (s_1:List UInt8),
 ∃ (n_1:Int),
 takeAt PI ((93:Nat)) (mksL b) (↑x:Int).toNat ((0:Nat)) = some (AV.agg [AV.str s_1,AV.int IntKind.i64 n_1]) ∧
 ((!(s == s_1 && (n == n_1 && true))) = true→RetIs (AV.bool false) [] (AV.bool (decide (a = b)),[])) ∧
 ((!(s == s_1 && (n == n_1 && true))) = false →
 ∃ (y:Nat),
 ValsAre
 [AV.sl ((2:Nat)) (mksL a) Own.no,AV.sl ((2:Nat)) (mksL b) Own.no,
 AV.int IntKind.i64 (IntKind.i64.wrap ((↑x:Int) + (1:Int)))]
 [AV.sl ((2:Nat)) (mksL a) Own.no,AV.sl ((2:Nat)) (mksL b) Own.no,AV.int IntKind.i64 (↑y:Int)] ∧
 StIs { boxes:=[],live:=[] } { boxes:=[],live:=[] } ∧
 (y≤a.length∧List.take y a = List.take y b)∧a.length - y < a.length - x)) ∧
 (decide ((↑x:Int) < (↑(mksL a).length:Int)) = false→RetIs (AV.bool true) [] (AV.bool (decide (a = b)),[])))):=by kernel_rfl
end Go.Abs
namespace Go.Abs
open Go.Proofs Go.RowKit
theorem agg93:aggA PI 93 = some true:=by kernel_rfl
theorem size93:sizeA PI 93 = some 2:=by kernel_rfl
theorem take_mk {l:List MkI} {i:Nat} (h:i < l.length):takeAt PI 93 (mksL l) i 0 = some (.agg [.str l[i].s,.int .i64 l[i].n]):=by
 simp only [takeAt,List.getElem?_map,List.getElem?_eq_getElem h,Option.map_some,takeA,agg93,size93]
 rfl
theorem unM_inv (a:AV) (v:MkI) (h:unM a = some v):a = mkA v:=by
 unfold unM at h
 split at h
 ·injection h with h; subst h; rfl
 ·cases h
theorem p14 (m:Int) (a b:List MkI) (hl:a.length≤2000000):PureOk PI (GI m) XM (tbl []) (itbl []) (a14 a b) [] 14 [.sl 2 (mksL a) .no,.sl 2 (mksL b) .no] (.bool (decide (a = b)),[]):=by
 constructor
 rw [w14]
 have hla:(mksL a).length = a.length:=List.length_map ..
 have hlb:(mksL b).length = b.length:=List.length_map ..
 rw [hla,hlb]
 refine ⟨fun h=>⟨?_⟩,fun h=>⟨⟨0,⟨rfl⟩,⟨rfl⟩,⟨Nat.zero_le _,rfl⟩,trivial⟩,fun x ⟨hx,ht⟩=>⟨fun h2=>?_,fun h2=>⟨?_⟩⟩⟩⟩
 ·rw [decide_eq_false]
  rintro rfl
  simp at h
 ·have hlen:a.length = b.length:=by simp at h; omega
  have h2:=of_decide_eq_true h2
  have hxa:x < a.length:=by omega
  have hxb:x < b.length:=by omega
  refine ⟨⟨by omega,by omega⟩,_,_,by rw [Int.toNat_natCast]; exact take_mk hxa,⟨by omega,by omega⟩,_,_,by rw [Int.toNat_natCast]; exact take_mk hxb,fun h3=>⟨?_⟩,fun h3=>⟨x + 1,⟨by rw [wrapN (by omega)]⟩,⟨rfl⟩,⟨by omega,?_⟩,by omega⟩⟩
  ·rw [decide_eq_false]
   exact ne_of_at (List.getElem?_eq_getElem hxa) (List.getElem?_eq_getElem hxb) fun e=>by rw [e] at h3; simp at h3
  ·have e:a[x] = b[x]:=by
    simp at h3
    obtain ⟨h4,h5⟩:=h3
    cases hA:a[x]; cases hB:b[x]; rw [hA,hB] at h4 h5; simp_all
   exact take_next (List.getElem?_eq_getElem hxa) (by rw [List.getElem?_eq_getElem hxb,e]) ht
 ·have hlen:a.length = b.length:=by simp at h; omega
  have h2:=of_decide_eq_false h2
  have hxe:x = a.length:=by omega
  rw [hxe,List.take_length,hlen,List.take_length] at ht
  rw [decide_eq_true ht]
theorem o14 (m:Int):SpecOk PI (GI m) 14 s14:=spec_of (X:=XM) (m:=[]) mixedI tbl_nil itbl_nil fun args r h=>by
 unfold s14 at h
 split at h
 case h_2=>cases h
 split at h
 case isFalse=>cases h
 rename_i hz
 obtain ⟨rfl,rfl⟩:=hz
 split at h
 case h_2=>cases h
 rename_i a b ha hb
 split at h
 case isFalse=>cases h
 rename_i hc
 injection h with h; subst h
 obtain rfl:=unL_inv unM_inv ha
 obtain rfl:=unL_inv unM_inv hb
 exact ⟨_,p14 m a b hc⟩
end Go.Abs
namespace Go.Abs
open Go.Proofs
theorem w24 (m:Int) (s:List UInt8) (n:Int):(pureW PI (GI m) X3 (tbl []) (itbl []) nAn [] 24 [.str s,.int .i64 n] (sentA s n,[])) =
(RetIs
 (AV.agg
  [AV.str s,AV.bool false,AV.int IntKind.i64 (0:Int),AV.str s,AV.int IntKind.i64 n,AV.int IntKind.i64 (0:Int),AV.int IntKind.i64 (0:Int),
   AV.str [],AV.str [],AV.int IntKind.i64 (0:Int),AV.sl ((0:Nat)) [] Own.nil])
 []
 (AV.agg
   [AV.str s,AV.bool false,AV.int IntKind.i64 (0:Int),AV.str s,AV.int IntKind.i64 n,AV.int IntKind.i64 (0:Int),AV.int IntKind.i64 (0:Int),
    AV.str [],AV.str [],AV.int IntKind.i64 (0:Int),AV.sl ((0:Nat)) [] Own.nil],
  [])):=by kernel_rfl
theorem w20 (m:Int) (s:List UInt8):(pureW PI (GI m) XS (tbl [(27,s27)]) (itbl []) nAn [] 20 [.str s] (.tup [if nameR s then .agg [.str s,.int .i64 1,.sl 0 [] .nil] else .agg [.str [],.int .i64 0,.sl 0 [] .nil],.int .i64 (if nameR s then 0 else 1)],[])) =
(∃ (b:Bool),
  CallIs (tbl [((27:Nat),s27)] ((27:Nat)) [AV.str s]) (AV.bool b) [] ∧
    (b = true →
        RetIs (AV.tup [AV.agg [AV.str s,AV.int IntKind.i64 (1:Int),AV.sl ((0:Nat)) [] Own.nil],AV.int IntKind.i64 (0:Int)]) []
 (AV.tup
 [if nameR s = true then AV.agg [AV.str s,AV.int IntKind.i64 (1:Int),AV.sl ((0:Nat)) [] Own.nil]
 else AV.agg [AV.str [],AV.int IntKind.i64 (0:Int),AV.sl ((0:Nat)) [] Own.nil],
 AV.int IntKind.i64 (if nameR s = true then (0:Int) else (1:Int))],
 [])) ∧
      (b = false →
        RetIs (AV.tup [AV.agg [AV.str [],AV.int IntKind.i64 (0:Int),AV.sl ((0:Nat)) [] Own.nil],AV.int IntKind.i64 (1:Int)]) []
 (AV.tup
 [if nameR s = true then AV.agg [AV.str s,AV.int IntKind.i64 (1:Int),AV.sl ((0:Nat)) [] Own.nil]
 else AV.agg [AV.str [],AV.int IntKind.i64 (0:Int),AV.sl ((0:Nat)) [] Own.nil],
 AV.int IntKind.i64 (if nameR s = true then (0:Int) else (1:Int))],
 []))):=by kernel_rfl
end Go.Abs
namespace Go.Abs
open Go.Proofs Go.RowKit
theorem o24 (m:Int):SpecOk PI (GI m) 24 s24:=spec_of (X:=X3) (m:=[]) mixedI tbl_nil itbl_nil fun args r h=>by
 unfold s24 at h
 split at h
 case h_2=>cases h
 injection h with h; subst h
 exact ⟨nAn,⟨by rw [w24]; exact ⟨rfl⟩⟩⟩
theorem o20 (m:Int):SpecOk PI (GI m) 20 s20:=spec_of (X:=XS) (m:=[]) mixedI (tbl_cons (o27 m) tbl_nil) itbl_nil fun args r h=>by
 unfold s20 at h
 split at h
 case h_2=>cases h
 rename_i s
 split at h
 case isFalse=>cases h
 rename_i hl
 injection h with h; subst h
 refine ⟨nAn,⟨?_⟩⟩
 rw [w20]
 exact ⟨nameR s,⟨c27 hl⟩,fun h=>⟨by simp [h]⟩,fun h=>⟨by simp [h]⟩⟩
end Go.Abs
namespace Go.Abs
open Go.Proofs
def unG:AV→Option FcI
 | .agg [.str src,.int .i64 seq,.int .i64 kind,.int .i64 ref,.str table,.str key,.int .i64 event,.sl sz es .no]=>if sz = 3 then (unL unV es).map fun fs=>⟨src,seq,kind,ref,table,key,event,fs⟩ else none
 | _=>none
def seqOf:AV→Int
 | .agg (_ :: .int .i64 q :: _)=>q
 | _=>0
def keptOpen (n:Int) (es:List AV):List AV:=es.filter fun e=>!decide (seqOf e < n)
def keptIdx (n:Int) (es:List AV):Int:=if es.all (fun e=>!decide (seqOf e < n)) then -1 else (es.takeWhile fun e=>!decide (seqOf e < n)).length
abbrev sdC (nm:List UInt8) (nx:Int) (sz:Nat) (l:List AV):List AV:=[.str nm,.int .i64 nx,.sl sz l .no]
abbrev sdZ:List AV:=[.str [],.int .i64 0,.sl 0 [] .nil]
abbrev pkD (src:List UInt8) (ack:Bool) (next:Int) (fsrc:List UInt8) (seq kind ref:Int) (tab key:List UInt8) (ev:Int) (fs:List AV):List AV:=[.str src,.bool ack,.int .i64 next,.str fsrc,.int .i64 seq,.int .i64 kind,.int .i64 ref,.str tab,.str key,.int .i64 ev,.sl 3 fs .no]
def s47:ISpec:=fun args S=>match args,S with
 | [.agg [.str _,.int .i64 q,.int .i64 _,.int .i64 _,.str _,.str _,.int .i64 _,.sl sz _ .no],.ptr b o],
  ⟨[some [.str _,.int .i64 _,.sl z1 _ .no],some [.str _,.bool _,.int .i64 pn,.str _,.int .i64 _,.int .i64 _,.int .i64 _,.str _,.str _,.int .i64 _,.sl z2 _ .no],some [.str a,.int .i64 z,.sl z3 [] .nil],some [.tup [.bool f,.sl z4 _ .no]]],[]⟩ =>
   if sz = 3∧b = 1∧o = 0∧z1 = 8∧z2 = 3∧a.isEmpty = true∧z = 0∧z3 = 0∧f = true∧z4 = 8 then some (True,.bool (decide (q < pn)),S) else none
 | [.agg [.str _,.int .i64 q,.int .i64 _,.int .i64 _,.str _,.str _,.int .i64 _,.sl sz _ .no],.ptr b o],
  ⟨[some [.str _,.int .i64 _,.sl z1 _ .no],some [.str _,.bool _,.int .i64 pn,.str _,.int .i64 _,.int .i64 _,.int .i64 _,.str _,.str _,.int .i64 _,.sl z2 _ .no],some [.str a,.int .i64 z,.sl z3 [] .nil],some [.tup [.bool f,.sl z4 _ .no]],some [.str _,.int .i64 _,.int .i64 _,.int .i64 _,.str _,.str _,.int .i64 _,.sl z5 _ .no]],[]⟩ =>
   if z5 = 3∧sz = 3∧b = 1∧o = 0∧z1 = 8∧z2 = 3∧a.isEmpty = true∧z = 0∧z3 = 0∧f = true∧z4 = 8 then some (True,.bool (decide (q < pn)),S) else none
 | _,_=>none
def s62:ISpec:=fun args S=>match args,S with
 | [.ms b3 sz n,.fn g [.ptr b o]],
  ⟨[some [.str _,.int .i64 _,.sl z1 _ .no],some [.str _,.bool _,.int .i64 pn,.str _,.int .i64 _,.int .i64 _,.int .i64 _,.str _,.str _,.int .i64 _,.sl z2 _ .no],some [.str a,.int .i64 z,.sl z3 [] .nil],some [.tup [.bool f,.sl z4 es .no]]],[]⟩ =>
   if b3 = 3∧sz = 8∧g = 47∧b = 1∧o = 0∧z1 = 8∧z2 = 3∧a.isEmpty = true∧z = 0∧z3 = 0∧f = true∧z4 = 8 then some (((∃ l,es = fcsL l)∧n = es.length∧es.length≤2000000),.int .i64 (keptIdx pn es),S) else none
 | [.sl sz [] .full,.fn g [.ptr b o]],
  ⟨[some [.str _,.int .i64 _,.sl _ _ .no],some [.str _,.bool _,.int .i64 _,.str _,.int .i64 _,.int .i64 _,.int .i64 _,.str _,.str _,.int .i64 _,.sl z2 _ .no],some [.str a,.int .i64 z,.sl z3 [] .nil]],[]⟩ =>
   if sz = 8∧g = 47∧b = 1∧o = 0∧z2 = 3∧a.isEmpty = true∧z = 0∧z3 = 0 then some (True,.int .i64 (-1),S) else none
 | _,_=>none
def s46:ISpec:=fun args S=>match args,S with
 | [.ms b3 sz n,.fn g [.ptr b o]],
  ⟨[some [.str nm,.int .i64 nx,.sl z1 l1 .no],some [.str src,.bool ack,.int .i64 pn,.str fsrc,.int .i64 seq,.int .i64 kind,.int .i64 ref,.str tab,.str key,.int .i64 ev,.sl z2 fs .no],some [.str a,.int .i64 z,.sl z3 [] .nil],some [.tup [.bool f,.sl z4 es .no]]],[]⟩ =>
   if b3 = 3∧sz = 8∧g = 47∧b = 1∧o = 0∧z1 = 8∧z2 = 3∧a.isEmpty = true∧z = 0∧z3 = 0∧f = true∧z4 = 8 then some (((∃ l,es = fcsL l)∧n = es.length∧es.length≤2000000),.ms 3 8 (keptOpen pn es).length,⟨[some (sdC nm nx 8 l1),some (pkD src ack pn fsrc seq kind ref tab key ev fs),some sdZ,some (ownC 8 (keptOpen pn es))],[]⟩) else none
 | [.sl sz [] .full,.fn g [.ptr b o]],
  ⟨[some [.str _,.int .i64 _,.sl _ _ .no],some [.str _,.bool _,.int .i64 _,.str _,.int .i64 _,.int .i64 _,.int .i64 _,.str _,.str _,.int .i64 _,.sl z2 _ .no],some [.str a,.int .i64 z,.sl z3 [] .nil]],[]⟩ =>
   if sz = 8∧g = 47∧b = 1∧o = 0∧z2 = 3∧a.isEmpty = true∧z = 0∧z3 = 0 then some (True,.sl sz [] .full,S) else none
 | _,_=>none
def ackBad (nm:List UInt8) (nx:Int) (src:List UInt8) (ack:Bool) (n:Int):Bool:=!ack || src != nm || decide (n < 1) || decide (nx < n)
structure SdI where
 nm:List UInt8
 nx:Int
 l:List FcI
deriving DecidableEq
def sdA (s:SdI):AV:=.agg (sdC s.nm s.nx 8 (fcsL s.l))
abbrev shFc:Sh × Option TypeId:=(.val (.agg [.str,.int .i64,.int .i64,.int .i64,.str,.str,.int .i64,.sl 3 .no]),none)
def ackP (s:SdI) (src:List UInt8) (ack:Bool) (n:Int):SdI × Int:=if ackBad s.nm s.nx src ack n then (⟨[],0,[]⟩,1) else (⟨s.nm,s.nx,s.l.filter fun f=>!decide (f.seq < n)⟩,0)
def s23:Spec:=fun args=>match args with
 | [.agg [.str nm,.int .i64 nx,.sl sz es .no],.agg [.str src,.bool ack,.int .i64 n,.str _,.int .i64 _,.int .i64 _,.int .i64 _,.str _,.str _,.int .i64 _,.sl sz2 _ .no]] =>
  if (sz = 8∨es = [])∧sz2 = 3∧es.length≤2000000 then (match unL unG es with
   | some l=>some (.tup [sdA (ackP ⟨nm,nx,l⟩ src ack n).1,.int .i64 (ackP ⟨nm,nx,l⟩ src ack n).2],[])
   | none=>none) else none
 | _=>none
abbrev pkF (f:List AV) (src:List UInt8):AV:=.agg (.str src :: .bool false :: .int .i64 0 :: f)
def s45:Spec:=fun args=>match args with
 | [.agg [.str src,.int .i64 seq,.int .i64 kind,.int .i64 ref,.str table,.str key,.int .i64 event,.sl sz es .no]]=>if sz = 3 then some (pkF [.str src,.int .i64 seq,.int .i64 kind,.int .i64 ref,.str table,.str key,.int .i64 event,.sl 3 es .no] src,[]) else none
 | _=>none
def s44p:Spec:=fun args=>match args with
 | [.sl sz (x :: es) .no]=>if sz = 8∧es.length≤2000000 then some (.sl 8 (x :: es) (.tok 0),[(es.length + 1,33)]) else none
 | _=>none
def s44n:ISpec:=fun args S=>match args with
 | [.sl sz' es _]=>if es.isEmpty then some (True,.sl 8 [] .full,S) else if sz' = 8 then some (es ≠ []∧es.length * 104≤140737488355328,.ms S.boxes.length 8 es.length,{ S with boxes:=S.boxes ++ [some (ownC 8 es)] }) else none
 | _=>none
def s44z:Spec:=fun args=>match args with
 | [.sl _ [] _]=>some (.sl 8 [] .full,[])
 | _=>none
def subP (s:SdI) (f:FcI):SdI × PkI × Int:=
 if maxT < s.nx then (⟨[],0,[]⟩,⟨[],false,0,⟨[],0,0,0,[],[],0,[]⟩⟩,2)
 else if 64≤s.l.length then (⟨[],0,[]⟩,⟨[],false,0,⟨[],0,0,0,[],[],0,[]⟩⟩,410)
 else (⟨s.nm,s.nx + 1,s.l ++ [{ f with src:=s.nm,seq:=s.nx }]⟩,⟨s.nm,false,0,{ f with src:=s.nm,seq:=s.nx }⟩,0)
def s21:Spec:=fun args=>match args with
 | [.agg [.str nm,.int .i64 nx,.sl sz es .no],.agg [.str src,.int .i64 seq,.int .i64 kind,.int .i64 ref,.str table,.str key,.int .i64 event,.sl sz2 es2 .no]] =>
  if (sz = 8∨es = [])∧sz2 = 3∧es.length≤2000000∧-4611686018427387904≤nx then (match unL unG es,unL unV es2 with
   | some l,some fs=>some (.tup [sdA (subP ⟨nm,nx,l⟩ ⟨src,seq,kind,ref,table,key,event,fs⟩).1,pkA (subP ⟨nm,nx,l⟩ ⟨src,seq,kind,ref,table,key,event,fs⟩).2.1,.int .i64 (subP ⟨nm,nx,l⟩ ⟨src,seq,kind,ref,table,key,event,fs⟩).2.2],[])
   | _,_=>none) else none
 | _=>none
def resP (l:List FcI):List PkI:=l.map fun f=>⟨f.src,false,0,f⟩
def s22:Spec:=fun args=>match args with
 | [.agg [.str _,.int .i64 _,.sl sz es .no]] =>
  if sz = 8∧es.length≤2000000 then (match unL unG es with
   | some l=>some (.sl 11 (pksL (resP l)) .no,[])
   | none=>none) else none
 | _=>none
def XK:Shapes:=fun f=>match f with
 | 44=>some (.val (.one (.sl 8 (.tok 0))),some 33)
 | 45=>some (.val (.agg [.str,.bool,.int .i64,.str,.int .i64,.int .i64,.int .i64,.str,.str,.int .i64,.sl 3 .no]),none)
 | 2000033=>some shFc
 | _=>none
def XZ:Shapes:=fun f=>match f with
 | 44=>some (.val (.one (.sl 8 .full)),none)
 | f=>XK f
structure St46 where
 j:Nat
 i:Nat
 cur:List FcI
abbrev keepF (n:Int) (f:FcI):Bool:=!decide (f.seq < n)
abbrev S4 (nm:List UInt8) (nx:Int) (l1:List AV) (pk:List AV) (l:List FcI):St:=⟨[some (sdC nm nx 8 l1),some pk,some sdZ,some (ownC 8 (fcsL l))],[]⟩
abbrev S3 (nm:List UInt8) (nx:Int) (z1:Nat) (l1:List AV) (pk:List AV):St:=⟨[some (sdC nm nx z1 l1),some pk,some sdZ],[]⟩
def a46 (nm:List UInt8) (nx:Int) (l1:List AV) (pk:List AV) (pn:Int) (l:List FcI):Anns:=⟨fun k=>if k = 5 then some { α:=St46,slots:=[0,1,5,6],nb:=4,vals:=fun n=>[.ms 3 8 l.length,.fn 47 [.ptr 1 0],.int .i64 n.j,.int .i64 n.i],sS:=fun n=>S4 nm nx l1 pk n.cur,I:=fun n=>n.j < n.i∧n.i≤l.length∧n.cur.length = l.length∧n.cur.take n.j = (l.take n.i).filter (keepF pn)∧n.cur.drop n.i = l.drop n.i,μ:=fun n=>l.length - n.i } else none,nA⟩
def a62 (nm:List UInt8) (nx:Int) (l1:List AV) (pk:List AV) (pn:Int) (l:List FcI):Anns:=⟨fun k=>if k = 2 then some { α:=Nat,slots:=[0,1,7,8],nb:=4,vals:=fun n=>[.ms 3 8 l.length,.fn 47 [.ptr 1 0],.int .i64 l.length,.int .i64 n],sS:=fun _=>S4 nm nx l1 pk l,I:=fun n=>n≤l.length∧(l.take n).all (keepF pn) = true,μ:=fun n=>l.length - n } else none,nA⟩
def a62e (nm:List UInt8) (nx:Int) (z1:Nat) (l1:List AV) (pk:List AV):Anns:=⟨fun k=>if k = 2 then some { α:=Unit,slots:=[0,1,7,8],nb:=3,vals:=fun _=>[.sl 8 [] .full,.fn 47 [.ptr 1 0],.int .i64 0,.int .i64 0],sS:=fun _=>S3 nm nx z1 l1 pk,I:=fun _=>True,μ:=fun _=>0 } else none,nA⟩
def a22 (nm:List UInt8) (nx:Int) (l:List FcI):Anns:=⟨fun k=>if k = 2 then some { α:=Nat,slots:=[1,2,6,7,8],nb:=1,vals:=fun n=>[.ptr 0 0,.sl 11 (pksL (resP (l.take n))) (.tok 0),.sl 8 (fcsL l) .no,.int .i64 l.length,.int .i64 n],sS:=fun n=>⟨[some (sdC nm nx 8 (fcsL l))],[((resP (l.take n)).length,35)]⟩,I:=fun n=>n≤l.length,μ:=fun n=>l.length - n,mint:=[(2,35)] } else none,nA⟩
end Go.Abs
