/- Own texts, part 6. -/
import Derived.Test.YtpglogahncpnoaaPart5

namespace Go.Abs
open Go.Proofs
theorem w34e (m:Int) (s:List UInt8) (n:Int) (es:List AV):(pureW PI (GI m) XE (tbl []) (itbl []) nAn [] 34 [.sl 3 [] .full,.int .i64 0,.sl 3 [.agg [.str s,.int .i64 n,.sl 1 es .no]] .full] (.sl 3 [.agg [.str s,.int .i64 n,.sl 1 es .no]] (.tok 0),[(1,75)])) =
((0 : Int) ≤ (0 : Int) ∧
  ((0 : Nat) ≤ (0 : Nat) ∧ (0 : Nat) ≤ (0 : Nat)) ∧
    ((3 : Nat) = (3 : Nat) ∨ ([] : List AV) = []) ∧
      ((0:Nat) = (0:Nat) →
 (false = true →
 RetIs (AV.sl ((3:Nat)) [] Own.full) []
 (AV.sl ((3:Nat)) [AV.agg [AV.str s,AV.int IntKind.i64 n,AV.sl ((1:Nat)) es Own.no]] (Own.tok ((0:Nat))),[((1:Nat),(75:Nat))])) ∧
 (false = false →
 (true = true →
 ((3:Nat) = (3:Nat)∨([]:List AV) = []) ∧
 ((0:Nat) + (1:Nat)) * (49:Nat)≤(70368744177664:Nat) ∧
 (1:Nat) = (1:Nat) ∧
 RetIs (AV.sl ((3:Nat)) [AV.agg [AV.str s,AV.int IntKind.i64 n,AV.sl ((1:Nat)) es Own.no]] (Own.tok ((0:Nat))))
 [((1:Nat),(75:Nat))]
 (AV.sl ((3:Nat)) [AV.agg [AV.str s,AV.int IntKind.i64 n,AV.sl ((1:Nat)) es Own.no]] (Own.tok ((0:Nat))),
 [((1:Nat),(75:Nat))])) ∧
 (true = false→False))) ∧
        ((0:Nat) ≠ (0:Nat) →
 (false = true →
 RetIs (AV.sl ((3:Nat)) [] Own.full) []
 (AV.sl ((3:Nat)) [AV.agg [AV.str s,AV.int IntKind.i64 n,AV.sl ((1:Nat)) es Own.no]] (Own.tok ((0:Nat))),[((1:Nat),(75:Nat))])) ∧
 (false = false →
 (true = true →
 ((3:Nat) = (3:Nat)∨([]:List AV) = []) ∧
 ((0:Nat) + (1:Nat)) * (49:Nat)≤(70368744177664:Nat) ∧
 (1:Nat) = (1:Nat) ∧
 RetIs (AV.sl ((3:Nat)) [AV.agg [AV.str s,AV.int IntKind.i64 n,AV.sl ((1:Nat)) es Own.no]] (Own.tok ((0:Nat))))
 [((1:Nat),(75:Nat))]
 (AV.sl ((3:Nat)) [AV.agg [AV.str s,AV.int IntKind.i64 n,AV.sl ((1:Nat)) es Own.no]] (Own.tok ((0:Nat))),
 [((1:Nat),(75:Nat))])) ∧
 (true = false→False)))):=by kernel_rfl
theorem w10z (m:Int) (p:PkQ) (kind ref ev:Int) (tab key:List UInt8) (sz:Nat) (es:List AV) (o:Own):(pureW PI (GI m) XE (tbl [(27,s27),(28,s28z),(34,s34e)]) (itbl [(32,s32),(31,s31),(33,s33)]) (a10n p kind ref ev tab key (.sl sz es o) (.sl 0 [] .nil) 0) [] 10 [.agg [.sl 0 [] .nil],.agg (pkC p kind ref ev tab key (.sl sz es o))] (recvR (recvP [] p))) =
((p.ack = true →
    RetIs
      (AV.tup
        [AV.agg [AV.sl ((0:Nat)) [] Own.nil],AV.bool false,
 AV.agg
 [AV.str [],AV.bool false,AV.int IntKind.i64 (0:Int),AV.str [],AV.int IntKind.i64 (0:Int),AV.int IntKind.i64 (0:Int),
 AV.int IntKind.i64 (0:Int),AV.str [],AV.str [],AV.int IntKind.i64 (0:Int),AV.sl ((0:Nat)) [] Own.nil],
 AV.int IntKind.i64 (1:Int)])
      [] (recvR (recvP [] p))) ∧
  (p.ack = false →
    ((p.next != (0:Int)) = true →
        RetIs
 (AV.tup
 [AV.agg [AV.sl ((0:Nat)) [] Own.nil],AV.bool false,
 AV.agg
 [AV.str [],AV.bool false,AV.int IntKind.i64 (0:Int),AV.str [],AV.int IntKind.i64 (0:Int),AV.int IntKind.i64 (0:Int),
 AV.int IntKind.i64 (0:Int),AV.str [],AV.str [],AV.int IntKind.i64 (0:Int),AV.sl ((0:Nat)) [] Own.nil],
 AV.int IntKind.i64 (1:Int)])
 [] (recvR (recvP [] p))) ∧
      ((p.next != (0 : Int)) = false →
        ∃ (b:Bool),
 CallIs (tbl [((27:Nat),s27),((28:Nat),s28z),((34:Nat),s34e)] ((27:Nat)) [AV.str p.src]) (AV.bool b) [] ∧
 (b = true →
 ((!(p.fsrc == p.src && (p.seq == p.seq && true))) = true →
 RetIs
 (AV.tup
 [AV.agg [AV.sl ((0:Nat)) [] Own.nil],AV.bool false,
 AV.agg
 [AV.str [],AV.bool false,AV.int IntKind.i64 (0:Int),AV.str [],AV.int IntKind.i64 (0:Int),AV.int IntKind.i64 (0:Int),
 AV.int IntKind.i64 (0:Int),AV.str [],AV.str [],AV.int IntKind.i64 (0:Int),AV.sl ((0:Nat)) [] Own.nil],
 AV.int IntKind.i64 (1:Int)])
 [] (recvR (recvP [] p))) ∧
 ((!(p.fsrc == p.src && (p.seq == p.seq && true))) = false →
 (decide (p.seq < (1:Int)) = true →
 RetIs
 (AV.tup
 [AV.agg [AV.sl ((0:Nat)) [] Own.nil],AV.bool false,
 AV.agg
 [AV.str [],AV.bool false,AV.int IntKind.i64 (0:Int),AV.str [],AV.int IntKind.i64 (0:Int),AV.int IntKind.i64 (0:Int),
 AV.int IntKind.i64 (0:Int),AV.str [],AV.str [],AV.int IntKind.i64 (0:Int),AV.sl ((0:Nat)) [] Own.nil],
 AV.int IntKind.i64 (1:Int)])
 [] (recvR (recvP [] p))) ∧
 (decide (p.seq < (1:Int)) = false →
 (decide (p.seq > (1099511627776:Int)) = true →
 RetIs
 (AV.tup
 [AV.agg [AV.sl ((0:Nat)) [] Own.nil],AV.bool false,
 AV.agg
 [AV.str [],AV.bool false,AV.int IntKind.i64 (0:Int),AV.str [],AV.int IntKind.i64 (0:Int),
 AV.int IntKind.i64 (0:Int),AV.int IntKind.i64 (0:Int),AV.str [],AV.str [],AV.int IntKind.i64 (0:Int),
 AV.sl ((0:Nat)) [] Own.nil],
 AV.int IntKind.i64 (1:Int)])
 [] (recvR (recvP [] p))) ∧
 (decide (p.seq > (1099511627776:Int)) = false →
 CallIs (some (AV.tup [AV.int IntKind.i64 (0:Int),AV.bool false],[])) (AV.tup [AV.int IntKind.i64 (0:Int),AV.bool false]) [] ∧
 (false = true→((0:Int)≤(0:Int)∧(0:Int) < (0:Int))∧False) ∧
 (false = false →
 (false = true →
 RetIs
 (AV.tup
 [AV.agg [AV.sl ((0:Nat)) [] Own.nil],AV.bool false,
 AV.agg
 [AV.str [],AV.bool false,AV.int IntKind.i64 (0:Int),AV.str [],AV.int IntKind.i64 (0:Int),
 AV.int IntKind.i64 (0:Int),AV.int IntKind.i64 (0:Int),AV.str [],AV.str [],AV.int IntKind.i64 (0:Int),
 AV.sl ((0:Nat)) [] Own.nil],
 AV.int IntKind.i64 (2:Int)])
 [] (recvR (recvP [] p))) ∧
 (false = false →
 (decide (p.seq > (65:Int)) = true →
 RetIs
 (AV.tup
 [AV.agg [AV.sl ((0:Nat)) [] Own.nil],AV.bool false,
 AV.agg
 [AV.str [],AV.bool false,AV.int IntKind.i64 (0:Int),AV.str [],AV.int IntKind.i64 (0:Int),
 AV.int IntKind.i64 (0:Int),AV.int IntKind.i64 (0:Int),AV.str [],AV.str [],
 AV.int IntKind.i64 (0:Int),AV.sl ((0:Nat)) [] Own.nil],
 AV.int IntKind.i64 (410:Int)])
 [] (recvR (recvP [] p))) ∧
 (decide (p.seq > (65:Int)) = false →
 (∃ (y:Nat),
 ValsAre
 [AV.ptr ((0:Nat)) ((0:Nat)),AV.ptr ((1:Nat)) ((0:Nat)),AV.ptr ((2:Nat)) ((0:Nat)),
 AV.ptr ((3:Nat)) ((0:Nat)),AV.int IntKind.i64 p.seq,AV.int IntKind.i64 (0:Int),AV.bool false,
 AV.ptr ((4:Nat)) ((0:Nat)),AV.mp ((5:Nat)),AV.sl ((0:Nat)) [] Own.nil,
 AV.int IntKind.i64 (0:Int),AV.int IntKind.i64 (0:Int)]
 [AV.ptr ((0:Nat)) ((0:Nat)),AV.ptr ((1:Nat)) ((0:Nat)),AV.ptr ((2:Nat)) ((0:Nat)),
 AV.ptr ((3:Nat)) ((0:Nat)),AV.int IntKind.i64 p.seq,AV.int IntKind.i64 (0:Int),AV.bool false,
 AV.ptr ((4:Nat)) ((0:Nat)),AV.mp ((5:Nat)),AV.sl ((0:Nat)) [] Own.nil,
 AV.int IntKind.i64 (0:Int),AV.int IntKind.i64 (↑y:Int)] ∧
 StIs
 { boxes:=[some [AV.sl ((0:Nat)) [] Own.nil],some [AV.str p.src,AV.bool p.ack,AV.int IntKind.i64 p.next,AV.str p.fsrc,AV.int IntKind.i64 p.seq,AV.int IntKind.i64 kind,AV.int IntKind.i64 ref,AV.str tab,AV.str key,AV.int IntKind.i64 ev,AV.sl sz es o],some [AV.sl ((0:Nat)) [] Own.nil],some [AV.str [],AV.bool false,AV.int IntKind.i64 (0:Int),AV.str [],AV.int IntKind.i64 (0:Int),AV.int IntKind.i64 (0:Int),AV.int IntKind.i64 (0:Int),AV.str [],AV.str [],AV.int IntKind.i64 (0:Int),AV.sl ((0:Nat)) [] Own.nil],some [AV.str p.src,AV.int IntKind.i64 (1:Int),AV.sl ((0:Nat)) [] Own.nil],some [AV.tup [AV.int IntKind.i64 (100:Int),AV.int IntKind.i64 (0:Int),AV.tup []]]],live:=[] }
 { boxes:=[some [AV.sl ((0:Nat)) [] Own.nil],some [AV.str p.src,AV.bool p.ack,AV.int IntKind.i64 p.next,AV.str p.fsrc,AV.int IntKind.i64 p.seq,AV.int IntKind.i64 kind,AV.int IntKind.i64 ref,AV.str tab,AV.str key,AV.int IntKind.i64 ev,AV.sl sz es o],some [AV.sl ((0:Nat)) [] Own.nil],some [AV.str [],AV.bool false,AV.int IntKind.i64 (0:Int),AV.str [],AV.int IntKind.i64 (0:Int),AV.int IntKind.i64 (0:Int),AV.int IntKind.i64 (0:Int),AV.str [],AV.str [],AV.int IntKind.i64 (0:Int),AV.sl ((0:Nat)) [] Own.nil],some [AV.str p.src,AV.int IntKind.i64 (1:Int),AV.sl ((0:Nat)) [] Own.nil],some [AV.tup [AV.int IntKind.i64 (100:Int),AV.int IntKind.i64 (↑y:Int),AV.tup (mpL (List.take y []))]]],live:=[] } ∧
 y≤([]:List Int).length∧True) ∧
 ∀ (x:Nat),
 x≤([]:List Int).length →
 (decide ((↑x:Int) < (0:Int)) = true→((0:Int)≤(↑x:Int)∧(↑x:Int) < (0:Int))∧False) ∧
 (decide ((↑x:Int) < (0:Int)) = false →
 (decide (p.seq ≥ (1:Int)) = true →
 KeyIs PI ((3:Nat)) (AV.int IntKind.i64 p.seq) ∧
 ∃ (b:Bool),
 LookIs (mpL (List.take x [])) (AV.int IntKind.i64 p.seq) (AV.bool false) (AV.bool b) ∧
 (b = true →
 RetIs
 (AV.tup
 [AV.agg [AV.sl ((0:Nat)) [] Own.nil],AV.bool false,
 AV.agg
 [AV.str p.src,AV.bool true,AV.int IntKind.i64 (1:Int),AV.str [],
 AV.int IntKind.i64 (0:Int),AV.int IntKind.i64 (0:Int),
 AV.int IntKind.i64 (0:Int),AV.str [],AV.str [],AV.int IntKind.i64 (0:Int),
 AV.sl ((0:Nat)) [] Own.nil],
 AV.int IntKind.i64 (0:Int)])
 [] (recvR (recvP [] p))) ∧
 (b = false →
 True ∧
 KeyIs PI ((3:Nat)) (AV.int IntKind.i64 p.seq) ∧
 ValIs (AV.bool true) ∧
 (0:Int)≤(↑x:Int) ∧
 (↑x:Int) < (70368744177664:Int) ∧
 (∃ (y:St21),
 ValsAre
 [AV.ptr ((0:Nat)) ((0:Nat)),AV.ptr ((1:Nat)) ((0:Nat)),
 AV.ptr ((2:Nat)) ((0:Nat)),AV.bool true,
 AV.ptr ((3:Nat)) ((0:Nat)),AV.int IntKind.i64 p.seq,
 AV.int IntKind.i64 (0:Int),AV.bool false,
 AV.ptr ((4:Nat)) ((0:Nat)),AV.mp ((5:Nat))]
 [AV.ptr ((0:Nat)) ((0:Nat)),AV.ptr ((1:Nat)) ((0:Nat)),
 AV.ptr ((2:Nat)) ((0:Nat)),AV.bool true,
 AV.ptr ((3:Nat)) ((0:Nat)),AV.int IntKind.i64 p.seq,
 AV.int IntKind.i64 (0:Int),AV.bool false,
 AV.ptr ((4:Nat)) ((0:Nat)),AV.mp ((5:Nat))] ∧
 StIs
 { boxes:=[some [AV.sl ((0:Nat)) [] Own.nil],some [AV.str p.src,AV.bool p.ack,AV.int IntKind.i64 p.next,AV.str p.fsrc,AV.int IntKind.i64 p.seq,AV.int IntKind.i64 kind,AV.int IntKind.i64 ref,AV.str tab,AV.str key,AV.int IntKind.i64 ev,AV.sl sz es o],some [AV.sl ((0:Nat)) [] Own.nil],some [AV.str [],AV.bool false,AV.int IntKind.i64 (0:Int),AV.str [],AV.int IntKind.i64 (0:Int),AV.int IntKind.i64 (0:Int),AV.int IntKind.i64 (0:Int),AV.str [],AV.str [],AV.int IntKind.i64 (0:Int),AV.sl ((0:Nat)) [] Own.nil],some [AV.str p.src,AV.int IntKind.i64 (1:Int),AV.sl ((0:Nat)) [] Own.nil],some [AV.tup [AV.int IntKind.i64 (100:Int),AV.int IntKind.i64 ((↑x:Int) + (1:Int)),AV.tup (keptPutM (mpL (List.take x [])) (AV.int IntKind.i64 p.seq) (AV.bool true))]]],live:=[] }
 { boxes:=[some [AV.sl ((0:Nat)) [] Own.nil],some [AV.str p.src,AV.bool p.ack,AV.int IntKind.i64 p.next,AV.str p.fsrc,AV.int IntKind.i64 p.seq,AV.int IntKind.i64 kind,AV.int IntKind.i64 ref,AV.str tab,AV.str key,AV.int IntKind.i64 ev,AV.sl sz es o],some [AV.sl ((0:Nat)) [] Own.nil],some [AV.str [],AV.bool false,AV.int IntKind.i64 (0:Int),AV.str [],AV.int IntKind.i64 (0:Int),AV.int IntKind.i64 (0:Int),AV.int IntKind.i64 (0:Int),AV.str [],AV.str [],AV.int IntKind.i64 (0:Int),AV.sl ((0:Nat)) [] Own.nil],some [AV.str p.src,AV.int IntKind.i64 y.x,AV.sl ((0:Nat)) [] Own.nil],some [AV.tup [AV.int IntKind.i64 (100:Int),AV.int IntKind.i64 (1:Int),AV.tup (mpL y.l)]]],live:=[] } ∧
 I21 (insI p.seq []) (1:Int) y∧True) ∧
 ∀ (x:St21),
 I21 (insI p.seq []) (1:Int) x →
 KeyIs PI ((3:Nat)) (AV.int IntKind.i64 x.x) ∧
 ∃ (b:Bool),
 LookIs (mpL x.l) (AV.int IntKind.i64 x.x) (AV.bool false) (AV.bool b) ∧
 (b = true →
 True ∧
 KeyIs PI ((3:Nat)) (AV.int IntKind.i64 x.x) ∧
 ∃ (y:St21),
 ValsAre
 [AV.ptr ((0:Nat)) ((0:Nat)),
 AV.ptr ((1:Nat)) ((0:Nat)),
 AV.ptr ((2:Nat)) ((0:Nat)),AV.bool true,
 AV.ptr ((3:Nat)) ((0:Nat)),
 AV.int IntKind.i64 p.seq,AV.int IntKind.i64 (0:Int),
 AV.bool false,AV.ptr ((4:Nat)) ((0:Nat)),
 AV.mp ((5:Nat))]
 [AV.ptr ((0:Nat)) ((0:Nat)),
 AV.ptr ((1:Nat)) ((0:Nat)),
 AV.ptr ((2:Nat)) ((0:Nat)),AV.bool true,
 AV.ptr ((3:Nat)) ((0:Nat)),
 AV.int IntKind.i64 p.seq,AV.int IntKind.i64 (0:Int),
 AV.bool false,AV.ptr ((4:Nat)) ((0:Nat)),
 AV.mp ((5:Nat))] ∧
 StIs
 { boxes:=[some [AV.sl ((0:Nat)) [] Own.nil],some [AV.str p.src,AV.bool p.ack,AV.int IntKind.i64 p.next,AV.str p.fsrc,AV.int IntKind.i64 p.seq,AV.int IntKind.i64 kind,AV.int IntKind.i64 ref,AV.str tab,AV.str key,AV.int IntKind.i64 ev,AV.sl sz es o],some [AV.sl ((0:Nat)) [] Own.nil],some [AV.str [],AV.bool false,AV.int IntKind.i64 (0:Int),AV.str [],AV.int IntKind.i64 (0:Int),AV.int IntKind.i64 (0:Int),AV.int IntKind.i64 (0:Int),AV.str [],AV.str [],AV.int IntKind.i64 (0:Int),AV.sl ((0:Nat)) [] Own.nil],some [AV.str p.src,AV.int IntKind.i64 (IntKind.i64.wrap (x.x + (1:Int))),AV.sl ((0:Nat)) [] Own.nil],some [AV.tup [AV.int IntKind.i64 (100:Int),AV.int IntKind.i64 (1:Int),AV.tup (keptDelM (mpL x.l) (AV.int IntKind.i64 x.x))]]],live:=[] }
 { boxes:=[some [AV.sl ((0:Nat)) [] Own.nil],some [AV.str p.src,AV.bool p.ack,AV.int IntKind.i64 p.next,AV.str p.fsrc,AV.int IntKind.i64 p.seq,AV.int IntKind.i64 kind,AV.int IntKind.i64 ref,AV.str tab,AV.str key,AV.int IntKind.i64 ev,AV.sl sz es o],some [AV.sl ((0:Nat)) [] Own.nil],some [AV.str [],AV.bool false,AV.int IntKind.i64 (0:Int),AV.str [],AV.int IntKind.i64 (0:Int),AV.int IntKind.i64 (0:Int),AV.int IntKind.i64 (0:Int),AV.str [],AV.str [],AV.int IntKind.i64 (0:Int),AV.sl ((0:Nat)) [] Own.nil],some [AV.str p.src,AV.int IntKind.i64 y.x,AV.sl ((0:Nat)) [] Own.nil],some [AV.tup [AV.int IntKind.i64 (100:Int),AV.int IntKind.i64 (1:Int),AV.tup (mpL y.l)]]],live:=[] } ∧
 I21 (insI p.seq []) (1:Int) y ∧
 y.T.length < x.T.length) ∧
 (b = false →
 True ∧
 ((keysZ (mpL x.l)).Nodup∧(1:Int)≤(1000000000000:Int)) ∧
 True ∧
 ∃ (es:List AV),
 CallIs
 (tbl
 [((27:Nat),s27),((28:Nat),s28z),
 ((34:Nat),s34e)]
 ((34:Nat))
 [AV.sl ((3:Nat)) [] Own.full,
 AV.int IntKind.i64 (0:Int),
 AV.sl ((3:Nat))
 [AV.agg
 [AV.str p.src,AV.int IntKind.i64 x.x,
 AV.sl ((1:Nat))
 (List.map (AV.int IntKind.i64)
 (sortZ (keysZ (mpL x.l))))
 Own.no]]
 Own.full])
 (AV.sl ((3:Nat)) es (Own.tok ((0:Nat))))
 [(es.length,(75:Nat))] ∧
 RetIs
 (AV.tup
 [AV.agg [AV.sl ((3:Nat)) es Own.no],AV.bool true,
 AV.agg
 [AV.str p.src,AV.bool true,
 AV.int IntKind.i64 x.x,AV.str [],
 AV.int IntKind.i64 (0:Int),
 AV.int IntKind.i64 (0:Int),
 AV.int IntKind.i64 (0:Int),AV.str [],
 AV.str [],AV.int IntKind.i64 (0:Int),
 AV.sl ((0:Nat)) [] Own.nil],
 AV.int IntKind.i64 (0:Int)])
 [] (recvR (recvP [] p))))) ∧
 (decide (p.seq ≥ (1:Int)) = false →
 RetIs
 (AV.tup
 [AV.agg [AV.sl ((0:Nat)) [] Own.nil],AV.bool false,
 AV.agg
 [AV.str p.src,AV.bool true,AV.int IntKind.i64 (1:Int),AV.str [],
 AV.int IntKind.i64 (0:Int),AV.int IntKind.i64 (0:Int),AV.int IntKind.i64 (0:Int),
 AV.str [],AV.str [],AV.int IntKind.i64 (0:Int),AV.sl ((0:Nat)) [] Own.nil],
 AV.int IntKind.i64 (0:Int)])
 [] (recvR (recvP [] p))))))))))) ∧
 (b = false →
 RetIs
 (AV.tup
 [AV.agg [AV.sl ((0:Nat)) [] Own.nil],AV.bool false,
 AV.agg
 [AV.str [],AV.bool false,AV.int IntKind.i64 (0:Int),AV.str [],AV.int IntKind.i64 (0:Int),AV.int IntKind.i64 (0:Int),
 AV.int IntKind.i64 (0:Int),AV.str [],AV.str [],AV.int IntKind.i64 (0:Int),AV.sl ((0:Nat)) [] Own.nil],
 AV.int IntKind.i64 (1:Int)])
 [] (recvR (recvP [] p)))))):=by kernel_rfl
theorem w10e (m:Int) (p:PkQ) (kind ref ev:Int) (tab key:List UInt8) (sz:Nat) (es:List AV) (o:Own):(pureW PI (GI m) XE (tbl [(27,s27),(28,s28z),(34,s34e)]) (itbl [(32,s32),(31,s31),(33,s33)]) (a10n p kind ref ev tab key (.sl sz es o) (.sl 3 [] .no) 0) [] 10 [.agg [.sl 3 [] .no],.agg (pkC p kind ref ev tab key (.sl sz es o))] (recvR (recvP [] p))) =
((p.ack = true →
    RetIs
      (AV.tup
        [AV.agg [AV.sl ((0:Nat)) [] Own.nil],AV.bool false,
 AV.agg
 [AV.str [],AV.bool false,AV.int IntKind.i64 (0:Int),AV.str [],AV.int IntKind.i64 (0:Int),AV.int IntKind.i64 (0:Int),
 AV.int IntKind.i64 (0:Int),AV.str [],AV.str [],AV.int IntKind.i64 (0:Int),AV.sl ((0:Nat)) [] Own.nil],
 AV.int IntKind.i64 (1:Int)])
      [] (recvR (recvP [] p))) ∧
  (p.ack = false →
    ((p.next != (0:Int)) = true →
        RetIs
 (AV.tup
 [AV.agg [AV.sl ((0:Nat)) [] Own.nil],AV.bool false,
 AV.agg
 [AV.str [],AV.bool false,AV.int IntKind.i64 (0:Int),AV.str [],AV.int IntKind.i64 (0:Int),AV.int IntKind.i64 (0:Int),
 AV.int IntKind.i64 (0:Int),AV.str [],AV.str [],AV.int IntKind.i64 (0:Int),AV.sl ((0:Nat)) [] Own.nil],
 AV.int IntKind.i64 (1:Int)])
 [] (recvR (recvP [] p))) ∧
      ((p.next != (0 : Int)) = false →
        ∃ (b:Bool),
 CallIs (tbl [((27:Nat),s27),((28:Nat),s28z),((34:Nat),s34e)] ((27:Nat)) [AV.str p.src]) (AV.bool b) [] ∧
 (b = true →
 ((!(p.fsrc == p.src && (p.seq == p.seq && true))) = true →
 RetIs
 (AV.tup
 [AV.agg [AV.sl ((0:Nat)) [] Own.nil],AV.bool false,
 AV.agg
 [AV.str [],AV.bool false,AV.int IntKind.i64 (0:Int),AV.str [],AV.int IntKind.i64 (0:Int),AV.int IntKind.i64 (0:Int),
 AV.int IntKind.i64 (0:Int),AV.str [],AV.str [],AV.int IntKind.i64 (0:Int),AV.sl ((0:Nat)) [] Own.nil],
 AV.int IntKind.i64 (1:Int)])
 [] (recvR (recvP [] p))) ∧
 ((!(p.fsrc == p.src && (p.seq == p.seq && true))) = false →
 (decide (p.seq < (1:Int)) = true →
 RetIs
 (AV.tup
 [AV.agg [AV.sl ((0:Nat)) [] Own.nil],AV.bool false,
 AV.agg
 [AV.str [],AV.bool false,AV.int IntKind.i64 (0:Int),AV.str [],AV.int IntKind.i64 (0:Int),AV.int IntKind.i64 (0:Int),
 AV.int IntKind.i64 (0:Int),AV.str [],AV.str [],AV.int IntKind.i64 (0:Int),AV.sl ((0:Nat)) [] Own.nil],
 AV.int IntKind.i64 (1:Int)])
 [] (recvR (recvP [] p))) ∧
 (decide (p.seq < (1:Int)) = false →
 (decide (p.seq > (1099511627776:Int)) = true →
 RetIs
 (AV.tup
 [AV.agg [AV.sl ((0:Nat)) [] Own.nil],AV.bool false,
 AV.agg
 [AV.str [],AV.bool false,AV.int IntKind.i64 (0:Int),AV.str [],AV.int IntKind.i64 (0:Int),
 AV.int IntKind.i64 (0:Int),AV.int IntKind.i64 (0:Int),AV.str [],AV.str [],AV.int IntKind.i64 (0:Int),
 AV.sl ((0:Nat)) [] Own.nil],
 AV.int IntKind.i64 (1:Int)])
 [] (recvR (recvP [] p))) ∧
 (decide (p.seq > (1099511627776:Int)) = false →
 CallIs (some (AV.tup [AV.int IntKind.i64 (0:Int),AV.bool false],[])) (AV.tup [AV.int IntKind.i64 (0:Int),AV.bool false]) [] ∧
 (false = true →
 ((0:Int)≤(0:Int)∧(0:Int) < (0:Int)) ∧
 ∃ (s:List UInt8),
 ∃ (n:Int),
 ∃ (es_1:List AV),
 none = some (AV.agg [AV.str s,AV.int IntKind.i64 n,AV.sl ((1:Nat)) es_1 Own.no]) ∧
 (decide (p.seq > IntKind.i64.wrap (n + (64:Int))) = true →
 RetIs
 (AV.tup
 [AV.agg [AV.sl ((0:Nat)) [] Own.nil],AV.bool false,
 AV.agg
 [AV.str [],AV.bool false,AV.int IntKind.i64 (0:Int),AV.str [],AV.int IntKind.i64 (0:Int),
 AV.int IntKind.i64 (0:Int),AV.int IntKind.i64 (0:Int),AV.str [],AV.str [],
 AV.int IntKind.i64 (0:Int),AV.sl ((0:Nat)) [] Own.nil],
 AV.int IntKind.i64 (410:Int)])
 [] (recvR (recvP [] p))) ∧
 (decide (p.seq > IntKind.i64.wrap (n + (64:Int))) = false →
 (∃ (y:Nat),
 ValsAre
 [AV.ptr ((0:Nat)) ((0:Nat)),AV.ptr ((1:Nat)) ((0:Nat)),AV.ptr ((2:Nat)) ((0:Nat)),
 AV.ptr ((3:Nat)) ((0:Nat)),AV.int IntKind.i64 p.seq,AV.int IntKind.i64 (0:Int),AV.bool true,
 AV.ptr ((4:Nat)) ((0:Nat)),AV.mp ((5:Nat)),AV.sl ((1:Nat)) es_1 Own.no,
 AV.int IntKind.i64 (↑es_1.length:Int),AV.int IntKind.i64 (0:Int)]
 [AV.ptr ((0:Nat)) ((0:Nat)),AV.ptr ((1:Nat)) ((0:Nat)),AV.ptr ((2:Nat)) ((0:Nat)),
 AV.ptr ((3:Nat)) ((0:Nat)),AV.int IntKind.i64 p.seq,AV.int IntKind.i64 (0:Int),AV.bool false,
 AV.ptr ((4:Nat)) ((0:Nat)),AV.mp ((5:Nat)),AV.sl ((0:Nat)) [] Own.nil,
 AV.int IntKind.i64 (0:Int),AV.int IntKind.i64 (↑y:Int)] ∧
 StIs
 { boxes:=[some [AV.sl ((3:Nat)) [] Own.no],some [AV.str p.src,AV.bool p.ack,AV.int IntKind.i64 p.next,AV.str p.fsrc,AV.int IntKind.i64 p.seq,AV.int IntKind.i64 kind,AV.int IntKind.i64 ref,AV.str tab,AV.str key,AV.int IntKind.i64 ev,AV.sl sz es o],some [AV.sl ((0:Nat)) [] Own.nil],some [AV.str [],AV.bool false,AV.int IntKind.i64 (0:Int),AV.str [],AV.int IntKind.i64 (0:Int),AV.int IntKind.i64 (0:Int),AV.int IntKind.i64 (0:Int),AV.str [],AV.str [],AV.int IntKind.i64 (0:Int),AV.sl ((0:Nat)) [] Own.nil],some [AV.str s,AV.int IntKind.i64 n,AV.sl ((1:Nat)) es_1 Own.no],some [AV.tup [AV.int IntKind.i64 (100:Int),AV.int IntKind.i64 (0:Int),AV.tup []]]],live:=[] }
 { boxes:=[some [AV.sl ((3:Nat)) [] Own.no],some [AV.str p.src,AV.bool p.ack,AV.int IntKind.i64 p.next,AV.str p.fsrc,AV.int IntKind.i64 p.seq,AV.int IntKind.i64 kind,AV.int IntKind.i64 ref,AV.str tab,AV.str key,AV.int IntKind.i64 ev,AV.sl sz es o],some [AV.sl ((0:Nat)) [] Own.nil],some [AV.str [],AV.bool false,AV.int IntKind.i64 (0:Int),AV.str [],AV.int IntKind.i64 (0:Int),AV.int IntKind.i64 (0:Int),AV.int IntKind.i64 (0:Int),AV.str [],AV.str [],AV.int IntKind.i64 (0:Int),AV.sl ((0:Nat)) [] Own.nil],some [AV.str p.src,AV.int IntKind.i64 (1:Int),AV.sl ((0:Nat)) [] Own.nil],some [AV.tup [AV.int IntKind.i64 (100:Int),AV.int IntKind.i64 (↑y:Int),AV.tup (mpL (List.take y []))]]],live:=[] } ∧
 y≤([]:List Int).length∧True) ∧
 ∀ (x:Nat),
 x≤([]:List Int).length →
 (decide ((↑x:Int) < (0:Int)) = true→((0:Int)≤(↑x:Int)∧(↑x:Int) < (0:Int))∧False) ∧
 (decide ((↑x:Int) < (0:Int)) = false →
 (decide (p.seq ≥ (1:Int)) = true →
 KeyIs PI ((3:Nat)) (AV.int IntKind.i64 p.seq) ∧
 ∃ (b:Bool),
 LookIs (mpL (List.take x [])) (AV.int IntKind.i64 p.seq) (AV.bool false) (AV.bool b) ∧
 (b = true →
 RetIs
 (AV.tup
 [AV.agg [AV.sl ((3:Nat)) [] Own.no],AV.bool false,
 AV.agg
 [AV.str p.src,AV.bool true,AV.int IntKind.i64 (1:Int),AV.str [],
 AV.int IntKind.i64 (0:Int),AV.int IntKind.i64 (0:Int),
 AV.int IntKind.i64 (0:Int),AV.str [],AV.str [],
 AV.int IntKind.i64 (0:Int),AV.sl ((0:Nat)) [] Own.nil],
 AV.int IntKind.i64 (0:Int)])
 [] (recvR (recvP [] p))) ∧
 (b = false →
 True ∧
 KeyIs PI ((3:Nat)) (AV.int IntKind.i64 p.seq) ∧
 ValIs (AV.bool true) ∧
 (0:Int)≤(↑x:Int) ∧
 (↑x:Int) < (70368744177664:Int) ∧
 (∃ (y:St21),
 ValsAre
 [AV.ptr ((0:Nat)) ((0:Nat)),AV.ptr ((1:Nat)) ((0:Nat)),
 AV.ptr ((2:Nat)) ((0:Nat)),AV.bool true,
 AV.ptr ((3:Nat)) ((0:Nat)),AV.int IntKind.i64 p.seq,
 AV.int IntKind.i64 (0:Int),AV.bool false,
 AV.ptr ((4:Nat)) ((0:Nat)),AV.mp ((5:Nat))]
 [AV.ptr ((0:Nat)) ((0:Nat)),AV.ptr ((1:Nat)) ((0:Nat)),
 AV.ptr ((2:Nat)) ((0:Nat)),AV.bool true,
 AV.ptr ((3:Nat)) ((0:Nat)),AV.int IntKind.i64 p.seq,
 AV.int IntKind.i64 (0:Int),AV.bool false,
 AV.ptr ((4:Nat)) ((0:Nat)),AV.mp ((5:Nat))] ∧
 StIs
 { boxes:=[some [AV.sl ((3:Nat)) [] Own.no],some [AV.str p.src,AV.bool p.ack,AV.int IntKind.i64 p.next,AV.str p.fsrc,AV.int IntKind.i64 p.seq,AV.int IntKind.i64 kind,AV.int IntKind.i64 ref,AV.str tab,AV.str key,AV.int IntKind.i64 ev,AV.sl sz es o],some [AV.sl ((0:Nat)) [] Own.nil],some [AV.str [],AV.bool false,AV.int IntKind.i64 (0:Int),AV.str [],AV.int IntKind.i64 (0:Int),AV.int IntKind.i64 (0:Int),AV.int IntKind.i64 (0:Int),AV.str [],AV.str [],AV.int IntKind.i64 (0:Int),AV.sl ((0:Nat)) [] Own.nil],some [AV.str p.src,AV.int IntKind.i64 (1:Int),AV.sl ((0:Nat)) [] Own.nil],some [AV.tup [AV.int IntKind.i64 (100:Int),AV.int IntKind.i64 ((↑x:Int) + (1:Int)),AV.tup (keptPutM (mpL (List.take x [])) (AV.int IntKind.i64 p.seq) (AV.bool true))]]],live:=[] }
 { boxes:=[some [AV.sl ((3:Nat)) [] Own.no],some [AV.str p.src,AV.bool p.ack,AV.int IntKind.i64 p.next,AV.str p.fsrc,AV.int IntKind.i64 p.seq,AV.int IntKind.i64 kind,AV.int IntKind.i64 ref,AV.str tab,AV.str key,AV.int IntKind.i64 ev,AV.sl sz es o],some [AV.sl ((0:Nat)) [] Own.nil],some [AV.str [],AV.bool false,AV.int IntKind.i64 (0:Int),AV.str [],AV.int IntKind.i64 (0:Int),AV.int IntKind.i64 (0:Int),AV.int IntKind.i64 (0:Int),AV.str [],AV.str [],AV.int IntKind.i64 (0:Int),AV.sl ((0:Nat)) [] Own.nil],some [AV.str p.src,AV.int IntKind.i64 y.x,AV.sl ((0:Nat)) [] Own.nil],some [AV.tup [AV.int IntKind.i64 (100:Int),AV.int IntKind.i64 (1:Int),AV.tup (mpL y.l)]]],live:=[] } ∧
 I21 (insI p.seq []) (1:Int) y∧True) ∧
 ∀ (x:St21),
 I21 (insI p.seq []) (1:Int) x →
 KeyIs PI ((3:Nat)) (AV.int IntKind.i64 x.x) ∧
 ∃ (b:Bool),
 LookIs (mpL x.l) (AV.int IntKind.i64 x.x) (AV.bool false)
 (AV.bool b) ∧
 (b = true →
 True ∧
 KeyIs PI ((3:Nat)) (AV.int IntKind.i64 x.x) ∧
 ∃ (y:St21),
 ValsAre
 [AV.ptr ((0:Nat)) ((0:Nat)),
 AV.ptr ((1:Nat)) ((0:Nat)),
 AV.ptr ((2:Nat)) ((0:Nat)),AV.bool true,
 AV.ptr ((3:Nat)) ((0:Nat)),
 AV.int IntKind.i64 p.seq,
 AV.int IntKind.i64 (0:Int),AV.bool false,
 AV.ptr ((4:Nat)) ((0:Nat)),AV.mp ((5:Nat))]
 [AV.ptr ((0:Nat)) ((0:Nat)),
 AV.ptr ((1:Nat)) ((0:Nat)),
 AV.ptr ((2:Nat)) ((0:Nat)),AV.bool true,
 AV.ptr ((3:Nat)) ((0:Nat)),
 AV.int IntKind.i64 p.seq,
 AV.int IntKind.i64 (0:Int),AV.bool false,
 AV.ptr ((4:Nat)) ((0:Nat)),
 AV.mp ((5:Nat))] ∧
 StIs
 { boxes:=[some [AV.sl ((3:Nat)) [] Own.no],some [AV.str p.src,AV.bool p.ack,AV.int IntKind.i64 p.next,AV.str p.fsrc,AV.int IntKind.i64 p.seq,AV.int IntKind.i64 kind,AV.int IntKind.i64 ref,AV.str tab,AV.str key,AV.int IntKind.i64 ev,AV.sl sz es o],some [AV.sl ((0:Nat)) [] Own.nil],some [AV.str [],AV.bool false,AV.int IntKind.i64 (0:Int),AV.str [],AV.int IntKind.i64 (0:Int),AV.int IntKind.i64 (0:Int),AV.int IntKind.i64 (0:Int),AV.str [],AV.str [],AV.int IntKind.i64 (0:Int),AV.sl ((0:Nat)) [] Own.nil],some [AV.str p.src,AV.int IntKind.i64 (IntKind.i64.wrap (x.x + (1:Int))),AV.sl ((0:Nat)) [] Own.nil],some [AV.tup [AV.int IntKind.i64 (100:Int),AV.int IntKind.i64 (1:Int),AV.tup (keptDelM (mpL x.l) (AV.int IntKind.i64 x.x))]]],live:=[] }
 { boxes:=[some [AV.sl ((3:Nat)) [] Own.no],some [AV.str p.src,AV.bool p.ack,AV.int IntKind.i64 p.next,AV.str p.fsrc,AV.int IntKind.i64 p.seq,AV.int IntKind.i64 kind,AV.int IntKind.i64 ref,AV.str tab,AV.str key,AV.int IntKind.i64 ev,AV.sl sz es o],some [AV.sl ((0:Nat)) [] Own.nil],some [AV.str [],AV.bool false,AV.int IntKind.i64 (0:Int),AV.str [],AV.int IntKind.i64 (0:Int),AV.int IntKind.i64 (0:Int),AV.int IntKind.i64 (0:Int),AV.str [],AV.str [],AV.int IntKind.i64 (0:Int),AV.sl ((0:Nat)) [] Own.nil],some [AV.str p.src,AV.int IntKind.i64 y.x,AV.sl ((0:Nat)) [] Own.nil],some [AV.tup [AV.int IntKind.i64 (100:Int),AV.int IntKind.i64 (1:Int),AV.tup (mpL y.l)]]],live:=[] } ∧
 I21 (insI p.seq []) (1:Int) y ∧
 y.T.length < x.T.length) ∧
 (b = false →
 True ∧
 ((keysZ (mpL x.l)).Nodup ∧
 (1:Int)≤(1000000000000:Int)) ∧
 True ∧
 ∃ (es:List AV),
 CallIs
 (tbl
 [((27:Nat),s27),((28:Nat),s28z),
 ((34:Nat),s34e)]
 ((34:Nat))
 [AV.sl ((3:Nat)) [] Own.full,
 AV.int IntKind.i64 (0:Int),
 AV.sl ((3:Nat))
 [AV.agg
 [AV.str p.src,AV.int IntKind.i64 x.x,
 AV.sl ((1:Nat))
 (List.map (AV.int IntKind.i64)
 (sortZ (keysZ (mpL x.l))))
 Own.no]]
 Own.full])
 (AV.sl ((3:Nat)) es (Own.tok ((0:Nat))))
 [(es.length,(75:Nat))] ∧
 RetIs
 (AV.tup
 [AV.agg [AV.sl ((3:Nat)) es Own.no],
 AV.bool true,
 AV.agg
 [AV.str p.src,AV.bool true,
 AV.int IntKind.i64 x.x,AV.str [],
 AV.int IntKind.i64 (0:Int),
 AV.int IntKind.i64 (0:Int),
 AV.int IntKind.i64 (0:Int),AV.str [],
 AV.str [],AV.int IntKind.i64 (0:Int),
 AV.sl ((0:Nat)) [] Own.nil],
 AV.int IntKind.i64 (0:Int)])
 [] (recvR (recvP [] p))))) ∧
 (decide (p.seq ≥ (1:Int)) = false →
 RetIs
 (AV.tup
 [AV.agg [AV.sl ((3:Nat)) [] Own.no],AV.bool false,
 AV.agg
 [AV.str p.src,AV.bool true,AV.int IntKind.i64 (1:Int),AV.str [],
 AV.int IntKind.i64 (0:Int),AV.int IntKind.i64 (0:Int),
 AV.int IntKind.i64 (0:Int),AV.str [],AV.str [],AV.int IntKind.i64 (0:Int),
 AV.sl ((0:Nat)) [] Own.nil],
 AV.int IntKind.i64 (0:Int)])
 [] (recvR (recvP [] p)))))) ∧
 (false = false →
 (false = true →
 RetIs
 (AV.tup
 [AV.agg [AV.sl ((0:Nat)) [] Own.nil],AV.bool false,
 AV.agg
 [AV.str [],AV.bool false,AV.int IntKind.i64 (0:Int),AV.str [],AV.int IntKind.i64 (0:Int),
 AV.int IntKind.i64 (0:Int),AV.int IntKind.i64 (0:Int),AV.str [],AV.str [],AV.int IntKind.i64 (0:Int),
 AV.sl ((0:Nat)) [] Own.nil],
 AV.int IntKind.i64 (2:Int)])
 [] (recvR (recvP [] p))) ∧
 (false = false →
 (decide (p.seq > (65:Int)) = true →
 RetIs
 (AV.tup
 [AV.agg [AV.sl ((0:Nat)) [] Own.nil],AV.bool false,
 AV.agg
 [AV.str [],AV.bool false,AV.int IntKind.i64 (0:Int),AV.str [],AV.int IntKind.i64 (0:Int),
 AV.int IntKind.i64 (0:Int),AV.int IntKind.i64 (0:Int),AV.str [],AV.str [],
 AV.int IntKind.i64 (0:Int),AV.sl ((0:Nat)) [] Own.nil],
 AV.int IntKind.i64 (410:Int)])
 [] (recvR (recvP [] p))) ∧
 (decide (p.seq > (65:Int)) = false →
 (∃ (y:Nat),
 ValsAre
 [AV.ptr ((0:Nat)) ((0:Nat)),AV.ptr ((1:Nat)) ((0:Nat)),AV.ptr ((2:Nat)) ((0:Nat)),
 AV.ptr ((3:Nat)) ((0:Nat)),AV.int IntKind.i64 p.seq,AV.int IntKind.i64 (0:Int),AV.bool false,
 AV.ptr ((4:Nat)) ((0:Nat)),AV.mp ((5:Nat)),AV.sl ((0:Nat)) [] Own.nil,
 AV.int IntKind.i64 (0:Int),AV.int IntKind.i64 (0:Int)]
 [AV.ptr ((0:Nat)) ((0:Nat)),AV.ptr ((1:Nat)) ((0:Nat)),AV.ptr ((2:Nat)) ((0:Nat)),
 AV.ptr ((3:Nat)) ((0:Nat)),AV.int IntKind.i64 p.seq,AV.int IntKind.i64 (0:Int),AV.bool false,
 AV.ptr ((4:Nat)) ((0:Nat)),AV.mp ((5:Nat)),AV.sl ((0:Nat)) [] Own.nil,
 AV.int IntKind.i64 (0:Int),AV.int IntKind.i64 (↑y:Int)] ∧
 StIs
 { boxes:=[some [AV.sl ((3:Nat)) [] Own.no],some [AV.str p.src,AV.bool p.ack,AV.int IntKind.i64 p.next,AV.str p.fsrc,AV.int IntKind.i64 p.seq,AV.int IntKind.i64 kind,AV.int IntKind.i64 ref,AV.str tab,AV.str key,AV.int IntKind.i64 ev,AV.sl sz es o],some [AV.sl ((0:Nat)) [] Own.nil],some [AV.str [],AV.bool false,AV.int IntKind.i64 (0:Int),AV.str [],AV.int IntKind.i64 (0:Int),AV.int IntKind.i64 (0:Int),AV.int IntKind.i64 (0:Int),AV.str [],AV.str [],AV.int IntKind.i64 (0:Int),AV.sl ((0:Nat)) [] Own.nil],some [AV.str p.src,AV.int IntKind.i64 (1:Int),AV.sl ((0:Nat)) [] Own.nil],some [AV.tup [AV.int IntKind.i64 (100:Int),AV.int IntKind.i64 (0:Int),AV.tup []]]],live:=[] }
 { boxes:=[some [AV.sl ((3:Nat)) [] Own.no],some [AV.str p.src,AV.bool p.ack,AV.int IntKind.i64 p.next,AV.str p.fsrc,AV.int IntKind.i64 p.seq,AV.int IntKind.i64 kind,AV.int IntKind.i64 ref,AV.str tab,AV.str key,AV.int IntKind.i64 ev,AV.sl sz es o],some [AV.sl ((0:Nat)) [] Own.nil],some [AV.str [],AV.bool false,AV.int IntKind.i64 (0:Int),AV.str [],AV.int IntKind.i64 (0:Int),AV.int IntKind.i64 (0:Int),AV.int IntKind.i64 (0:Int),AV.str [],AV.str [],AV.int IntKind.i64 (0:Int),AV.sl ((0:Nat)) [] Own.nil],some [AV.str p.src,AV.int IntKind.i64 (1:Int),AV.sl ((0:Nat)) [] Own.nil],some [AV.tup [AV.int IntKind.i64 (100:Int),AV.int IntKind.i64 (↑y:Int),AV.tup (mpL (List.take y []))]]],live:=[] } ∧
 y≤([]:List Int).length∧True) ∧
 ∀ (x:Nat),
 x≤([]:List Int).length →
 (decide ((↑x:Int) < (0:Int)) = true→((0:Int)≤(↑x:Int)∧(↑x:Int) < (0:Int))∧False) ∧
 (decide ((↑x:Int) < (0:Int)) = false →
 (decide (p.seq ≥ (1:Int)) = true →
 KeyIs PI ((3:Nat)) (AV.int IntKind.i64 p.seq) ∧
 ∃ (b:Bool),
 LookIs (mpL (List.take x [])) (AV.int IntKind.i64 p.seq) (AV.bool false) (AV.bool b) ∧
 (b = true →
 RetIs
 (AV.tup
 [AV.agg [AV.sl ((3:Nat)) [] Own.no],AV.bool false,
 AV.agg
 [AV.str p.src,AV.bool true,AV.int IntKind.i64 (1:Int),AV.str [],
 AV.int IntKind.i64 (0:Int),AV.int IntKind.i64 (0:Int),
 AV.int IntKind.i64 (0:Int),AV.str [],AV.str [],AV.int IntKind.i64 (0:Int),
 AV.sl ((0:Nat)) [] Own.nil],
 AV.int IntKind.i64 (0:Int)])
 [] (recvR (recvP [] p))) ∧
 (b = false →
 True ∧
 KeyIs PI ((3:Nat)) (AV.int IntKind.i64 p.seq) ∧
 ValIs (AV.bool true) ∧
 (0:Int)≤(↑x:Int) ∧
 (↑x:Int) < (70368744177664:Int) ∧
 (∃ (y:St21),
 ValsAre
 [AV.ptr ((0:Nat)) ((0:Nat)),AV.ptr ((1:Nat)) ((0:Nat)),
 AV.ptr ((2:Nat)) ((0:Nat)),AV.bool true,
 AV.ptr ((3:Nat)) ((0:Nat)),AV.int IntKind.i64 p.seq,
 AV.int IntKind.i64 (0:Int),AV.bool false,
 AV.ptr ((4:Nat)) ((0:Nat)),AV.mp ((5:Nat))]
 [AV.ptr ((0:Nat)) ((0:Nat)),AV.ptr ((1:Nat)) ((0:Nat)),
 AV.ptr ((2:Nat)) ((0:Nat)),AV.bool true,
 AV.ptr ((3:Nat)) ((0:Nat)),AV.int IntKind.i64 p.seq,
 AV.int IntKind.i64 (0:Int),AV.bool false,
 AV.ptr ((4:Nat)) ((0:Nat)),AV.mp ((5:Nat))] ∧
 StIs
 { boxes:=[some [AV.sl ((3:Nat)) [] Own.no],some [AV.str p.src,AV.bool p.ack,AV.int IntKind.i64 p.next,AV.str p.fsrc,AV.int IntKind.i64 p.seq,AV.int IntKind.i64 kind,AV.int IntKind.i64 ref,AV.str tab,AV.str key,AV.int IntKind.i64 ev,AV.sl sz es o],some [AV.sl ((0:Nat)) [] Own.nil],some [AV.str [],AV.bool false,AV.int IntKind.i64 (0:Int),AV.str [],AV.int IntKind.i64 (0:Int),AV.int IntKind.i64 (0:Int),AV.int IntKind.i64 (0:Int),AV.str [],AV.str [],AV.int IntKind.i64 (0:Int),AV.sl ((0:Nat)) [] Own.nil],some [AV.str p.src,AV.int IntKind.i64 (1:Int),AV.sl ((0:Nat)) [] Own.nil],some [AV.tup [AV.int IntKind.i64 (100:Int),AV.int IntKind.i64 ((↑x:Int) + (1:Int)),AV.tup (keptPutM (mpL (List.take x [])) (AV.int IntKind.i64 p.seq) (AV.bool true))]]],live:=[] }
 { boxes:=[some [AV.sl ((3:Nat)) [] Own.no],some [AV.str p.src,AV.bool p.ack,AV.int IntKind.i64 p.next,AV.str p.fsrc,AV.int IntKind.i64 p.seq,AV.int IntKind.i64 kind,AV.int IntKind.i64 ref,AV.str tab,AV.str key,AV.int IntKind.i64 ev,AV.sl sz es o],some [AV.sl ((0:Nat)) [] Own.nil],some [AV.str [],AV.bool false,AV.int IntKind.i64 (0:Int),AV.str [],AV.int IntKind.i64 (0:Int),AV.int IntKind.i64 (0:Int),AV.int IntKind.i64 (0:Int),AV.str [],AV.str [],AV.int IntKind.i64 (0:Int),AV.sl ((0:Nat)) [] Own.nil],some [AV.str p.src,AV.int IntKind.i64 y.x,AV.sl ((0:Nat)) [] Own.nil],some [AV.tup [AV.int IntKind.i64 (100:Int),AV.int IntKind.i64 (1:Int),AV.tup (mpL y.l)]]],live:=[] } ∧
 I21 (insI p.seq []) (1:Int) y∧True) ∧
 ∀ (x:St21),
 I21 (insI p.seq []) (1:Int) x →
 KeyIs PI ((3:Nat)) (AV.int IntKind.i64 x.x) ∧
 ∃ (b:Bool),
 LookIs (mpL x.l) (AV.int IntKind.i64 x.x) (AV.bool false) (AV.bool b) ∧
 (b = true →
 True ∧
 KeyIs PI ((3:Nat)) (AV.int IntKind.i64 x.x) ∧
 ∃ (y:St21),
 ValsAre
 [AV.ptr ((0:Nat)) ((0:Nat)),
 AV.ptr ((1:Nat)) ((0:Nat)),
 AV.ptr ((2:Nat)) ((0:Nat)),AV.bool true,
 AV.ptr ((3:Nat)) ((0:Nat)),
 AV.int IntKind.i64 p.seq,AV.int IntKind.i64 (0:Int),
 AV.bool false,AV.ptr ((4:Nat)) ((0:Nat)),
 AV.mp ((5:Nat))]
 [AV.ptr ((0:Nat)) ((0:Nat)),
 AV.ptr ((1:Nat)) ((0:Nat)),
 AV.ptr ((2:Nat)) ((0:Nat)),AV.bool true,
 AV.ptr ((3:Nat)) ((0:Nat)),
 AV.int IntKind.i64 p.seq,AV.int IntKind.i64 (0:Int),
 AV.bool false,AV.ptr ((4:Nat)) ((0:Nat)),
 AV.mp ((5:Nat))] ∧
 StIs
 { boxes:=[some [AV.sl ((3:Nat)) [] Own.no],some [AV.str p.src,AV.bool p.ack,AV.int IntKind.i64 p.next,AV.str p.fsrc,AV.int IntKind.i64 p.seq,AV.int IntKind.i64 kind,AV.int IntKind.i64 ref,AV.str tab,AV.str key,AV.int IntKind.i64 ev,AV.sl sz es o],some [AV.sl ((0:Nat)) [] Own.nil],some [AV.str [],AV.bool false,AV.int IntKind.i64 (0:Int),AV.str [],AV.int IntKind.i64 (0:Int),AV.int IntKind.i64 (0:Int),AV.int IntKind.i64 (0:Int),AV.str [],AV.str [],AV.int IntKind.i64 (0:Int),AV.sl ((0:Nat)) [] Own.nil],some [AV.str p.src,AV.int IntKind.i64 (IntKind.i64.wrap (x.x + (1:Int))),AV.sl ((0:Nat)) [] Own.nil],some [AV.tup [AV.int IntKind.i64 (100:Int),AV.int IntKind.i64 (1:Int),AV.tup (keptDelM (mpL x.l) (AV.int IntKind.i64 x.x))]]],live:=[] }
 { boxes:=[some [AV.sl ((3:Nat)) [] Own.no],some [AV.str p.src,AV.bool p.ack,AV.int IntKind.i64 p.next,AV.str p.fsrc,AV.int IntKind.i64 p.seq,AV.int IntKind.i64 kind,AV.int IntKind.i64 ref,AV.str tab,AV.str key,AV.int IntKind.i64 ev,AV.sl sz es o],some [AV.sl ((0:Nat)) [] Own.nil],some [AV.str [],AV.bool false,AV.int IntKind.i64 (0:Int),AV.str [],AV.int IntKind.i64 (0:Int),AV.int IntKind.i64 (0:Int),AV.int IntKind.i64 (0:Int),AV.str [],AV.str [],AV.int IntKind.i64 (0:Int),AV.sl ((0:Nat)) [] Own.nil],some [AV.str p.src,AV.int IntKind.i64 y.x,AV.sl ((0:Nat)) [] Own.nil],some [AV.tup [AV.int IntKind.i64 (100:Int),AV.int IntKind.i64 (1:Int),AV.tup (mpL y.l)]]],live:=[] } ∧
 I21 (insI p.seq []) (1:Int) y ∧
 y.T.length < x.T.length) ∧
 (b = false →
 True ∧
 ((keysZ (mpL x.l)).Nodup∧(1:Int)≤(1000000000000:Int)) ∧
 True ∧
 ∃ (es:List AV),
 CallIs
 (tbl
 [((27:Nat),s27),((28:Nat),s28z),
 ((34:Nat),s34e)]
 ((34:Nat))
 [AV.sl ((3:Nat)) [] Own.full,
 AV.int IntKind.i64 (0:Int),
 AV.sl ((3:Nat))
 [AV.agg
 [AV.str p.src,AV.int IntKind.i64 x.x,
 AV.sl ((1:Nat))
 (List.map (AV.int IntKind.i64)
 (sortZ (keysZ (mpL x.l))))
 Own.no]]
 Own.full])
 (AV.sl ((3:Nat)) es (Own.tok ((0:Nat))))
 [(es.length,(75:Nat))] ∧
 RetIs
 (AV.tup
 [AV.agg [AV.sl ((3:Nat)) es Own.no],AV.bool true,
 AV.agg
 [AV.str p.src,AV.bool true,
 AV.int IntKind.i64 x.x,AV.str [],
 AV.int IntKind.i64 (0:Int),
 AV.int IntKind.i64 (0:Int),
 AV.int IntKind.i64 (0:Int),AV.str [],
 AV.str [],AV.int IntKind.i64 (0:Int),
 AV.sl ((0:Nat)) [] Own.nil],
 AV.int IntKind.i64 (0:Int)])
 [] (recvR (recvP [] p))))) ∧
 (decide (p.seq ≥ (1:Int)) = false →
 RetIs
 (AV.tup
 [AV.agg [AV.sl ((3:Nat)) [] Own.no],AV.bool false,
 AV.agg
 [AV.str p.src,AV.bool true,AV.int IntKind.i64 (1:Int),AV.str [],
 AV.int IntKind.i64 (0:Int),AV.int IntKind.i64 (0:Int),AV.int IntKind.i64 (0:Int),
 AV.str [],AV.str [],AV.int IntKind.i64 (0:Int),AV.sl ((0:Nat)) [] Own.nil],
 AV.int IntKind.i64 (0:Int)])
 [] (recvR (recvP [] p))))))))))) ∧
 (b = false →
 RetIs
 (AV.tup
 [AV.agg [AV.sl ((0:Nat)) [] Own.nil],AV.bool false,
 AV.agg
 [AV.str [],AV.bool false,AV.int IntKind.i64 (0:Int),AV.str [],AV.int IntKind.i64 (0:Int),AV.int IntKind.i64 (0:Int),
 AV.int IntKind.i64 (0:Int),AV.str [],AV.str [],AV.int IntKind.i64 (0:Int),AV.sl ((0:Nat)) [] Own.nil],
 AV.int IntKind.i64 (1:Int)])
 [] (recvR (recvP [] p)))))):=by kernel_rfl
end Go.Abs
namespace Go.Abs
open Go.Proofs Go.RowKit
theorem c34e {s:List UInt8} {n:Int} {l:List Int} {a b:FuncId × Spec} (ha:¬ 34 = a.1) (hb:¬ 34 = b.1):tbl [a,b,(34,s34e)] 34 [.sl 3 [] .full,.int .i64 0,.sl 3 [.agg [.str s,.int .i64 n,.sl 1 (intsA l) .no]] .full] = some (.sl 3 [.agg [.str s,.int .i64 n,.sl 1 (intsA l) .no]] (.tok 0),[(1,75)]):=by
 obtain ⟨a1,a2⟩:=a
 obtain ⟨b1,b2⟩:=b
 rw [tbl_miss ha,tbl_miss hb,tbl_hit]
 simp only [s34e]
 rw [if_pos ⟨trivial,trivial,trivial,trivial,by simp [AV.closed1,AV.closed]⟩]
set_option maxHeartbeats 4000000 in
theorem p10e (m:Int) (p:PkQ) (kind ref ev:Int) (tab key:List UInt8) (sz:Nat) (es:List AV) (o:Own) (hp:p.src.length≤2000000) :
  ∃ A,PureOk PI (GI m) XE (tbl [(27,s27),(28,s28z),(34,s34e)]) (itbl [(32,s32),(31,s31),(33,s33)]) A [] 10 [.agg [.sl 3 [] .no],.agg (pkC p kind ref ev tab key (.sl sz es o))] (recvR (recvP [] p)):=by
 have hbO:bOf [] p.src = ⟨p.src,1,[]⟩:=rfl
 have ho:oldB [] p.src = false:=rfl
 refine ⟨a10n p kind ref ev tab key (.sl sz es o) (.sl 3 [] .no) 0,⟨?_⟩⟩
 rw [w10e]
 refine ⟨fun h=>ret_bad (by simp [badP,h]),fun h1=>⟨fun h=>ret_bad (by simp [badP,h]),fun h2=>⟨nameR p.src,⟨c27 hp⟩,fun h3=>⟨fun h=>ret_bad ?_,fun h4=>⟨fun h=>ret_bad (by simp [badP,h]),fun h5=>⟨fun h=>ret_bad ?_,fun h6=>⟨⟨rfl⟩,fun h=>(by cases h),fun _=>?_⟩⟩⟩⟩,fun h=>ret_bad (by simp [badP,h])⟩⟩⟩
 ·have:(p.fsrc != p.src) = true:=by simpa using h
  simp [badP,this]
 ·have:decide (maxT < p.seq) = true:=h
  simp [badP,this]
 have hbad:=badP_of h1 h2 h3 h4 h5 h6
 have hq1:1≤p.seq:=by simpa using h5
 have hq2:p.seq≤1099511627776:=by simpa using h6
 have hrec:recvP [] p = if (1:Int) + 64 < p.seq then .err 410
   else .out [arrB ⟨p.src,1,[]⟩ p.seq] true p.src (nextB ⟨p.src,1,[]⟩ p.seq):=by
  simp only [recvP,hbad,ho,hbO,Bool.not_false,Bool.true_and,Bool.false_eq_true,if_false,decide_eq_true_eq,List.not_mem_nil,or_false]
  rw [if_neg (by simp),if_neg (show ¬ p.seq < 1 by omega)]
  rfl
 refine ⟨fun h=>(by cases h),fun _=>⟨fun h=>?_,fun h8=>⟨⟨0,⟨rfl⟩,⟨rfl⟩,Nat.zero_le _,trivial⟩,fun x hx=>⟨fun hxl=>?_,fun hxl=>⟨fun h9=>?_,fun h9=>?_⟩⟩⟩⟩⟩
 ·have h:=of_decide_eq_true h
  exact ⟨by rw [hrec,if_pos (by omega)]; rfl⟩
 ·have:=of_decide_eq_true hxl
  omega
 ·have h8:=of_decide_eq_false h8
  have hx0:x = 0:=by simpa using hx
  subst hx0
  refine ⟨key_i64 (by omega) (by omega),false,⟨rfl⟩,fun h=>(by cases h),fun _=>⟨trivial,key_i64 (by omega) (by omega),val_true,by omega,by omega,⟨⟨[] ++ [p.seq],1,insI p.seq []⟩,⟨rfl⟩,⟨rfl⟩,?_,trivial⟩,fun n hn=>?_⟩⟩
  ·exact I21_start List.Pairwise.nil (fun x hx=>by cases hx) (by simp) (by omega) (by omega) (by simp)
  ·have hn1:=hn.2.2.2.2.2.1
   have hn2:=hn.2.2.2.2.2.2
   refine ⟨key_i64 (by omega) (by omega),decide (n.x ∈ n.l),⟨?_⟩,fun h10=>?_,fun h10=>?_⟩
   ·rw [lookM_mp]; by_cases hm:n.x ∈ n.l <;> simp [hm]
   ·obtain ⟨T',hT,hI⟩:=I21_step hn (of_decide_eq_true h10)
    refine ⟨trivial,key_i64 (by omega) (by omega),_,⟨rfl⟩,⟨?_⟩,hI,?_⟩
    ·rw [delM_mp,wrap64_in (n:=n.x + 1) (by omega) (by omega)]
    ·simp only; rw [hT]; simp
   ·obtain ⟨hE1,hE2⟩:=I21_end hn (of_decide_eq_false h10)
    have hnd:=hn.1
    have harr:arrB ⟨p.src,1,[]⟩ p.seq = ⟨p.src,n.x,n.T⟩:=by simp only [arrB,nextB,hE1]
    have hnx:nextB ⟨p.src,1,[]⟩ p.seq = n.x:=by simp only [nextB,hE1]
    refine ⟨trivial,⟨by rw [keysZ_mp]; exact hnd,by omega⟩,trivial,[bxA ⟨p.src,n.x,n.T⟩],⟨?_⟩,⟨?_⟩⟩
    ·rw [hE2]; exact c34e (by decide) (by decide)
    ·rw [hrec,if_neg (by omega),harr,hnx]
     rfl
 ·have h9:=of_decide_eq_false h9
  exact absurd hq1 h9
set_option maxHeartbeats 4000000 in
theorem p10z (m:Int) (p:PkQ) (kind ref ev:Int) (tab key:List UInt8) (sz:Nat) (es:List AV) (o:Own) (hp:p.src.length≤2000000) :
  ∃ A,PureOk PI (GI m) XE (tbl [(27,s27),(28,s28z),(34,s34e)]) (itbl [(32,s32),(31,s31),(33,s33)]) A [] 10 [.agg [.sl 0 [] .nil],.agg (pkC p kind ref ev tab key (.sl sz es o))] (recvR (recvP [] p)):=by
 have hbO:bOf [] p.src = ⟨p.src,1,[]⟩:=rfl
 have ho:oldB [] p.src = false:=rfl
 refine ⟨a10n p kind ref ev tab key (.sl sz es o) (.sl 0 [] .nil) 0,⟨?_⟩⟩
 rw [w10z]
 refine ⟨fun h=>ret_bad (by simp [badP,h]),fun h1=>⟨fun h=>ret_bad (by simp [badP,h]),fun h2=>⟨nameR p.src,⟨c27 hp⟩,fun h3=>⟨fun h=>ret_bad ?_,fun h4=>⟨fun h=>ret_bad (by simp [badP,h]),fun h5=>⟨fun h=>ret_bad ?_,fun h6=>⟨⟨rfl⟩,fun h=>(by cases h),fun _=>?_⟩⟩⟩⟩,fun h=>ret_bad (by simp [badP,h])⟩⟩⟩
 ·have:(p.fsrc != p.src) = true:=by simpa using h
  simp [badP,this]
 ·have:decide (maxT < p.seq) = true:=h
  simp [badP,this]
 have hbad:=badP_of h1 h2 h3 h4 h5 h6
 have hq1:1≤p.seq:=by simpa using h5
 have hq2:p.seq≤1099511627776:=by simpa using h6
 have hrec:recvP [] p = if (1:Int) + 64 < p.seq then .err 410
   else .out [arrB ⟨p.src,1,[]⟩ p.seq] true p.src (nextB ⟨p.src,1,[]⟩ p.seq):=by
  simp only [recvP,hbad,ho,hbO,Bool.not_false,Bool.true_and,Bool.false_eq_true,if_false,decide_eq_true_eq,List.not_mem_nil,or_false]
  rw [if_neg (by simp),if_neg (show ¬ p.seq < 1 by omega)]
  rfl
 refine ⟨fun h=>(by cases h),fun _=>⟨fun h=>?_,fun h8=>⟨⟨0,⟨rfl⟩,⟨rfl⟩,Nat.zero_le _,trivial⟩,fun x hx=>⟨fun hxl=>?_,fun hxl=>⟨fun h9=>?_,fun h9=>?_⟩⟩⟩⟩⟩
 ·have h:=of_decide_eq_true h
  exact ⟨by rw [hrec,if_pos (by omega)]; rfl⟩
 ·have:=of_decide_eq_true hxl
  omega
 ·have h8:=of_decide_eq_false h8
  have hx0:x = 0:=by simpa using hx
  subst hx0
  refine ⟨key_i64 (by omega) (by omega),false,⟨rfl⟩,fun h=>(by cases h),fun _=>⟨trivial,key_i64 (by omega) (by omega),val_true,by omega,by omega,⟨⟨[] ++ [p.seq],1,insI p.seq []⟩,⟨rfl⟩,⟨rfl⟩,?_,trivial⟩,fun n hn=>?_⟩⟩
  ·exact I21_start List.Pairwise.nil (fun x hx=>by cases hx) (by simp) (by omega) (by omega) (by simp)
  ·have hn1:=hn.2.2.2.2.2.1
   have hn2:=hn.2.2.2.2.2.2
   refine ⟨key_i64 (by omega) (by omega),decide (n.x ∈ n.l),⟨?_⟩,fun h10=>?_,fun h10=>?_⟩
   ·rw [lookM_mp]; by_cases hm:n.x ∈ n.l <;> simp [hm]
   ·obtain ⟨T',hT,hI⟩:=I21_step hn (of_decide_eq_true h10)
    refine ⟨trivial,key_i64 (by omega) (by omega),_,⟨rfl⟩,⟨?_⟩,hI,?_⟩
    ·rw [delM_mp,wrap64_in (n:=n.x + 1) (by omega) (by omega)]
    ·simp only; rw [hT]; simp
   ·obtain ⟨hE1,hE2⟩:=I21_end hn (of_decide_eq_false h10)
    have hnd:=hn.1
    have harr:arrB ⟨p.src,1,[]⟩ p.seq = ⟨p.src,n.x,n.T⟩:=by simp only [arrB,nextB,hE1]
    have hnx:nextB ⟨p.src,1,[]⟩ p.seq = n.x:=by simp only [nextB,hE1]
    refine ⟨trivial,⟨by rw [keysZ_mp]; exact hnd,by omega⟩,trivial,[bxA ⟨p.src,n.x,n.T⟩],⟨?_⟩,⟨?_⟩⟩
    ·rw [hE2]; exact c34e (by decide) (by decide)
    ·rw [hrec,if_neg (by omega),harr,hnx]
     rfl
 ·have h9:=of_decide_eq_false h9
  exact absurd hq1 h9
theorem spec_of' {P:Program} {G:Glob} (hm:P.follows .mixedOrders = true) {m:List Bool} {f:FuncId} {s:Spec}
  (h:∀ args r,s args = some r→∃ X R C A,CalleeOk P G R∧ICalleeOk P G (lowC C)∧PureOk P G X R C A m f args r):SpecOk P G f s:=by
 intro g args r lv hr
 by_cases e:g = f
 ·subst e
  simp only [if_true] at hr
  obtain ⟨X,R,C,A,hR,hC,hA⟩:=h args _ hr
  classical
  have key:SpecOk P G g (fun a=>if a = args then some (r,lv) else none):=spec_of (X:=X) (m:=m) hm hR hC fun a r' h'=>by
   split at h'
   ·rename_i ea
    injection h' with h'
    subst ea; subst h'
    exact ⟨A,hA⟩
   ·cases h'
  exact key g args r lv (by simp)
 ·simp only [if_neg e] at hr
  cases hr
theorem o34e (m:Int):SpecOk PI (GI m) 34 s34e:=spec_of' mixedI (m:=[]) fun args r h=>by
 unfold s34e at h
 split at h
 case h_2=>cases h
 split at h
 case isFalse=>cases h
 rename_i hc
 obtain ⟨rfl,rfl,rfl,rfl,_⟩:=hc
 injection h with h; subst h
 refine ⟨XE,tbl [],itbl [],nAn,tbl_nil,itbl_nil,⟨?_⟩⟩
 rw [w34e]
 refine ⟨by omega,⟨by omega,by omega⟩,.inl rfl,fun _=>⟨fun h=>(by cases h),fun _=>⟨fun _=>⟨.inl rfl,by omega,rfl,⟨rfl⟩⟩,fun h=>(by cases h)⟩⟩,fun h=>absurd rfl h⟩
theorem o28f (m:Int):SpecOk PI (GI m) 28 s28f:=spec_of (X:=XR) (m:=[]) mixedI (tbl_cons (o29 m) tbl_nil) itbl_nil fun args r h=>by
 unfold s28f at h
 split at h
 case h_2=>cases h
 split at h
 case isFalse=>cases h
 rename_i hz
 subst hz
 split at h
 case h_2=>cases h
 rename_i r hr
 split at h
 case isFalse=>cases h
 rename_i hc
 injection h with h; subst h
 rw [unBs_inv hr,← hc.2.2]
 exact ⟨_,p28 m r _ hc.1 hc.2.1⟩
theorem o28n (m:Int):SpecOk PI (GI m) 28 s28n:=spec_of (X:=XR) (m:=[]) mixedI (tbl_cons (o29 m) tbl_nil) itbl_nil fun args r h=>by
 unfold s28n at h
 split at h
 case h_2=>cases h
 split at h
 case isFalse=>cases h
 rename_i hz
 subst hz
 split at h
 case h_2=>cases h
 rename_i r hr
 split at h
 case isFalse=>cases h
 rename_i hc
 injection h with h; subst h
 rw [unBs_inv hr,← hc.2.2]
 exact ⟨_,p28 m r _ hc.1 hc.2.1⟩
theorem o28z (m:Int):SpecOk PI (GI m) 28 s28z:=spec_of (X:=XR) (m:=[]) mixedI (tbl_cons (o29 m) tbl_nil) itbl_nil fun args r h=>by
 unfold s28z at h
 split at h
 case h_2=>cases h
 split at h
 case isFalse=>cases h
 rename_i hz
 injection h with h; subst h
 rcases hz with rfl | rfl
 ·exact ⟨_,p28z m _ _⟩
 ·exact ⟨_,p28e m _ _⟩
theorem o33n (m:Int):ISpecOk PI (GI m) 33 s33n:=oCloneN (o33 m)
def rcvOf (sz:Nat) (es:List AV) (o:Own):Option (List BxI):=
 match o with
 | .nil=>if sz = 0∧es.isEmpty = true then some [] else none
 | .no=>if sz = 3 then unL unB es else none
 | _=>none
def s10:Spec:=fun args=>match args with
 | [.agg [.sl sz es o],.agg [.str src,.bool ack,.int .i64 next,.str fsrc,.int .i64 seq,.int .i64 _,.int .i64 _,.str _,.str _,.int .i64 _,.sl _ _ _]] =>
  if src.length≤2000000 then (match rcvOf sz es o with
   | some r=>if rcvOk r = true then some (recvR (recvP r ⟨src,ack,next,fsrc,seq⟩)) else none
   | none=>none) else none
 | _=>none
theorem o10 (m:Int):SpecOk PI (GI m) 10 s10:=spec_of' mixedI (m:=[]) fun args r h=>by
 unfold s10 at h
 split at h
 case h_2=>cases h
 rename_i sz es o src ack next fsrc seq kind ref tab key ev sz2 es2 o2
 split at h
 case isFalse=>cases h
 rename_i hl
 split at h
 case h_2=>cases h
 rename_i r hr
 split at h
 case isFalse=>cases h
 rename_i hok
 injection h with h; subst h
 have hz:∀ {X:Shapes} {R:Callee} {C:CCallee},CalleeOk PI (GI m) R→ICalleeOk PI (GI m) (lowC C)→(∃ A,PureOk PI (GI m) X R C A [] 10 [.agg [.sl sz es o],.agg (pkC ⟨src,ack,next,fsrc,seq⟩ kind ref ev tab key (.sl sz2 es2 o2))] (recvR (recvP r ⟨src,ack,next,fsrc,seq⟩))) →
   ∃ X R C A,CalleeOk PI (GI m) R∧ICalleeOk PI (GI m) (lowC C)∧PureOk PI (GI m) X R C A [] 10 [.agg [.sl sz es o],.agg [.str src,.bool ack,.int .i64 next,.str fsrc,.int .i64 seq,.int .i64 kind,.int .i64 ref,.str tab,.str key,.int .i64 ev,.sl sz2 es2 o2]] (recvR (recvP r ⟨src,ack,next,fsrc,seq⟩)):=fun {X R C} hR hC ⟨A,hA⟩=>⟨X,R,C,A,hR,hC,hA⟩
 have hE:ICalleeOk PI (GI m) (lowC (itbl [(32,s32),(31,s31),(33,s33)])):=itbl_cons (o32 m) (itbl_cons (o31 m) (itbl_cons (o33 m) itbl_nil))
 have hN:ICalleeOk PI (GI m) (lowC (itbl [(32,s32),(31,s31),(33,s33n),(34,s34)])):=itbl_cons (o32 m) (itbl_cons (o31 m) (itbl_cons (o33n m) (itbl_cons (o34 m) itbl_nil)))
 have hTE:CalleeOk PI (GI m) (tbl [(27,s27),(28,s28z),(34,s34e)]):=tbl_cons (o27 m) (tbl_cons (o28z m) (tbl_cons (o34e m) tbl_nil))
 cases o with
 | nil =>
  simp only [rcvOf] at hr
  split at hr
  case isFalse=>cases hr
  rename_i hc
  obtain ⟨rfl,he⟩:=hc
  obtain rfl:es = []:=by simpa using he
  injection hr with hr; subst hr
  exact hz hTE hE (p10z m _ kind ref ev tab key sz2 es2 o2 hl)
 | no =>
  simp only [rcvOf] at hr
  split at hr
  case isFalse=>cases hr
  rename_i hc
  subst hc
  obtain rfl:=unBs_inv hr
  by_cases hne:r = []
  ·subst hne
   exact hz hTE hE (p10e m _ kind ref ev tab key sz2 es2 o2 hl)
  ·by_cases hold:oldB r src = true
   ·exact hz (tbl_cons (o27 m) (tbl_cons (o28f m) tbl_nil)) hN (p10f m r ⟨src,ack,next,fsrc,seq⟩ kind ref ev tab key sz2 es2 o2 hl hok hold)
   ·exact hz (tbl_cons (o27 m) (tbl_cons (o28n m) tbl_nil)) hN (p10n m r ⟨src,ack,next,fsrc,seq⟩ kind ref ev tab key sz2 es2 o2 hl hok (by simpa using hold) hne)
 | full=>simp [rcvOf] at hr
 | tok t=>simp [rcvOf] at hr
end Go.Abs
namespace Go.Abs
open Go.Proofs
def s37:Spec:=fun args=>match args with
 | [.sl sz es .no,.int .i64 n]=>if sz = 1 then (match unL unIn es with
  | some l=>if l.length≤2000000 then some (.bool (decide (n ∈ l)),[]) else none
  | none=>none) else none
 | _=>none
def s37z:Spec:=fun args=>match args with
 | [.sl sz [] .nil,.int .i64 _]=>if sz = 0 then some (.bool false,[]) else none
 | _=>none
def s36f:Spec:=fun args=>match args with
 | [.agg [.sl sz es .no],.str t]=>if sz = 3 then (match unL unB es with
  | some r=>if r.length≤2000000∧oldB r t = true then some (.tup [bxA (r.getD (lowB r t) default),.int .i64 (lowB r t),.bool true],[]) else none
  | none=>none) else none
 | _=>none
def s36n:Spec:=fun args=>match args with
 | [.agg [.sl sz es .no],.str t]=>if sz = 3 then (match unL unB es with
  | some r=>if r.length≤2000000∧oldB r t = false then some (.tup [.agg [.str t,.int .i64 1,.sl 0 [] .nil],.int .i64 (lowB r t),.bool false],[]) else none
  | none=>none) else none
 | _=>none
def s38:Spec:=fun args=>match args with
 | [.agg [.str s,.int .i64 x,.sl sz es .no],.int .i64 n]=>if sz = 1 then (match unL unIn es with
  | some l=>if boxOk ⟨s,x,l⟩ = true∧x≤n∧n≤maxT∧n ∉ l then some (bxA (arrB ⟨s,x,l⟩ n),[]) else none
  | none=>none) else none
 | _=>none
def s38z:Spec:=fun args=>match args with
 | [.agg [.str s,.int .i64 x,.sl sz [] .nil],.int .i64 n]=>if sz = 0∧x = 1∧1≤n∧n≤maxT then some (bxA (arrB ⟨s,1,[]⟩ n),[]) else none
 | _=>none
def shBx:Sh × Option TypeId:=(.val (.agg [.str,.int .i64,.sl 1 .no]),none)
def XA:Shapes:=fun f=>match f with
 | 37=>some shB
 | 38=>some shBx
 | 35=>some shB
 | 36=>some (.tup [.agg [.str,.int .i64,.sl 1 .no],.one (.int .i64),.one (.is (.bool true))],none)
 | _=>none
def XB:Shapes:=fun f=>match f with
 | 37=>some shB
 | 38=>some shBx
 | 35=>some shB
 | 36=>some (.tup [.agg [.str,.is (.int .i64 1),.is (.sl 0 [] .nil)],.one (.int .i64),.one (.is (.bool false))],none)
 | _=>none
def a37 (l:List Int) (n:Int):Anns:=⟨fun k=>if k = 2 then some { α:=Nat,slots:=[0,1,5],nb:=0,vals:=fun i=>[.sl 1 (intsA l) .no,.int .i64 n,.int .i64 i],sS:=fun _=>⟨[],[]⟩,I:=fun i=>i≤l.length∧n ∉ l.take i,μ:=fun i=>l.length - i } else none,nA⟩
def a37z (n:Int):Anns:=⟨fun k=>if k = 2 then some { α:=Unit,slots:=[0,1,5],nb:=0,vals:=fun _=>[.sl 0 [] .nil,.int .i64 n,.int .i64 0],sS:=fun _=>⟨[],[]⟩,I:=fun _=>True,μ:=fun _=>0 } else none,nA⟩
abbrev zero75:List AV:=[.str [],.int .i64 0,.sl 0 [] .nil]
def a36 (r:List BxI) (t:List UInt8):Anns:=⟨fun k=>if k = 2 then some { α:=Nat,slots:=[1,2,4,7],nb:=2,vals:=fun i=>[.str t,.ptr 0 0,.ptr 1 0,.int .i64 i],sS:=fun _=>⟨[some [.sl 3 (bxsL r) .no],some zero75],[]⟩,I:=fun i=>i≤lowB r t,μ:=fun i=>r.length - i } else none,nA⟩
structure St38 where
 i:Nat
 pl:Bool
 out:List Int
def remL (nx n:Int) (pl:Bool) (l:List Int):List Int:=(if pl then l else insI n l).filter fun y=>decide (nx≤y)
def a38 (s:List UInt8) (x0:Int) (sl:AV) (l:List Int) (n:Int):Anns:=⟨fun k=>match k with
 | 2=>some { α:=Int × List Int,slots:=[1,2,4,5],nb:=3,vals:=fun _=>[.int .i64 n,.ptr 0 0,.ptr 1 0,.ptr 2 0],sS:=fun m=>⟨[some [.str s,.int .i64 x0,sl],some zero75,some [.str s,.int .i64 m.1,.sl 0 [] .nil]],[]⟩,I:=fun m=>I21 (insI n l) x0 ⟨m.2,m.1,m.2⟩∧∀ y,m.1≤y→(y ∈ insI n l ↔ y ∈ m.2),μ:=fun m=>m.2.length }
 | 6=>some { α:=St38,slots:=[1,2,4,5,6,7],nb:=3,vals:=fun m=>[.int .i64 n,.ptr 0 0,.ptr 1 0,.ptr 2 0,.bool m.pl,.int .i64 m.i],sS:=fun m=>⟨[some [.str s,.int .i64 x0,sl],some zero75,some [.str s,.int .i64 (runS (insI n l) x0).1,.sl 1 (intsA m.out) (.tok 0)]],[(m.out.length,3)]⟩,I:=fun m=>m.i≤l.length∧(m.pl = false→(runS (insI n l) x0).1≤n)∧m.out ++ remL (runS (insI n l) x0).1 n m.pl (l.drop m.i) = (runS (insI n l) x0).2∧m.out.length≤2 * m.i,μ:=fun m=>l.length - m.i,mintB:=[(2002,3)],bools:=[6] }
 | _=>none,nA⟩
end Go.Abs
