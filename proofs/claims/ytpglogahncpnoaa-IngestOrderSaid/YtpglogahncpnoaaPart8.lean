/- Own texts, part 8. -/
import Derived.Test.YtpglogahncpnoaaPart6

namespace Go.Abs
open Go.Proofs
theorem w3 (m:Int) (r:List BxI) (ps:List PkI):(pureW PI (GI m) X3 (tbl t3) (itbl []) (a3 r ps) [] 3 [.agg [.sl 3 (bxsL r) .no],.sl 11 (pksL ps) .no] (.bool true,[])) =
(∃ (b:Bool),
  CallIs (some (AV.bool true,[])) (AV.bool b) [] ∧
    (b = true →
        (decide ((↑(pksL ps).length:Int) > (40:Int)) = true→RetIs (AV.bool true) [] (AV.bool true,[])) ∧
 (decide ((↑(pksL ps).length:Int) > (40:Int)) = false →
 (decide ((↑(bxsL r).length:Int) > (16:Int)) = true→RetIs (AV.bool true) [] (AV.bool true,[])) ∧
 (decide ((↑(bxsL r).length:Int) > (16:Int)) = false →
 ∃ (b:Bool),
 CallIs
 (tbl [((7:Nat),s7),((8:Nat),s8),((9:Nat),s9),((10:Nat),s10w),((11:Nat),s11w),((12:Nat),s12w),((13:Nat),s13)]
 ((8:Nat)) [AV.agg [AV.sl ((3:Nat)) (bxsL r) Own.no]])
 (AV.bool b) [] ∧
 (b = true →
 (∃ (y:Nat × List BxI),
 ValsAre
 [AV.sl ((11:Nat)) (pksL ps) Own.no,AV.ptr ((1:Nat)) ((0:Nat)),AV.ptr ((2:Nat)) ((0:Nat)),
 AV.int IntKind.i64 (0:Int)]
 [AV.sl ((11:Nat)) (pksL ps) Own.no,AV.ptr ((1:Nat)) ((0:Nat)),AV.ptr ((2:Nat)) ((0:Nat)),
 AV.int IntKind.i64 (↑y.fst:Int)] ∧
 StIs
 { boxes:=[some [AV.sl ((3:Nat)) (bxsL r) Own.no],some [AV.sl ((3:Nat)) (bxsL r) Own.no],some [AV.sl ((3:Nat)) (bxsL r) Own.no]],live:=[] }
 { boxes:=[some [AV.sl ((3:Nat)) (bxsL r) Own.no],some [AV.sl ((3:Nat)) (bxsL y.snd) Own.no],some [AV.sl ((3:Nat)) (bxsL y.snd) Own.no]],live:=[] } ∧
 (y.fst≤ps.length∧ps.length≤(40:Nat)∧rcvOk y.snd = true)∧True) ∧
 ∀ (x:Nat × List BxI),
 x.fst≤ps.length∧ps.length≤(40:Nat)∧rcvOk x.snd = true →
 (decide ((↑x.fst:Int) < (↑(pksL ps).length:Int)) = true →
 ((0:Int)≤(↑x.fst:Int)∧(↑x.fst:Int) < (↑(pksL ps).length:Int)) ∧
 ∃ (s:List UInt8),
 ∃ (n:Int),
 ∃ (n_1:Int),
 ∃ (n_2:Int),
 ∃ (s_1:List UInt8),
 ∃ (s_2:List UInt8),
 ∃ (n_3:Int),
 ∃ (es:List AV),
 takeAt PI ((33:Nat)) (pksL ps) (↑x.fst:Int).toNat ((3:Nat)) =
 some
 (AV.agg
 [AV.str s,AV.int IntKind.i64 n,AV.int IntKind.i64 n_1,AV.int IntKind.i64 n_2,AV.str s_1,
 AV.str s_2,AV.int IntKind.i64 n_3,AV.sl ((3:Nat)) es Own.no]) ∧
 ∃ (b:Bool),
 CallIs
 (tbl
 [((7:Nat),s7),((8:Nat),s8),((9:Nat),s9),((10:Nat),s10w),((11:Nat),s11w),
 ((12:Nat),s12w),((13:Nat),s13)]
 ((9:Nat))
 [AV.agg
 [AV.str s,AV.int IntKind.i64 n,AV.int IntKind.i64 n_1,AV.int IntKind.i64 n_2,AV.str s_1,
 AV.str s_2,AV.int IntKind.i64 n_3,AV.sl ((3:Nat)) es Own.no]])
 (AV.bool b) [] ∧
 (b = true →
 ((0:Int)≤(↑x.fst:Int)∧(↑x.fst:Int) < (↑(pksL ps).length:Int)) ∧
 ∃ (s:List UInt8),
 takeAt PI ((9:Nat)) (pksL ps) (↑x.fst:Int).toNat ((0:Nat)) = some (AV.str s) ∧
 (decide ((↑s.length:Int) > (200:Int)) = true →
 RetIs (AV.bool true) [] (AV.bool true,[])) ∧
 (decide ((↑s.length:Int) > (200:Int)) = false →
 ((0:Int)≤(↑x.fst:Int)∧(↑x.fst:Int) < (↑(pksL ps).length:Int)) ∧
 ∃ (s:List UInt8),
 ∃ (b:Bool),
 ∃ (n:Int),
 ∃ (s_3:List UInt8),
 ∃ (n_4:Int),
 ∃ (n_5:Int),
 ∃ (n_6:Int),
 ∃ (s_4:List UInt8),
 ∃ (s_5:List UInt8),
 ∃ (n_7:Int),
 ∃ (es:List AV),
 takeAt PI ((35:Nat)) (pksL ps) (↑x.fst:Int).toNat
 ((0:Nat)) =
 some
 (AV.agg
 [AV.str s,AV.bool b,AV.int IntKind.i64 n,AV.str s_3,
 AV.int IntKind.i64 n_4,AV.int IntKind.i64 n_5,
 AV.int IntKind.i64 n_6,AV.str s_4,AV.str s_5,
 AV.int IntKind.i64 n_7,
 AV.sl ((3:Nat)) es Own.no]) ∧
 ∃ (es_1:List AV),
 ∃ (b_1:Bool),
 ∃ (s_6:List UInt8),
 ∃ (b_2:Bool),
 ∃ (n_8:Int),
 ∃ (n_9:Int),
 CallIs
 (tbl
 [((7:Nat),s7),((8:Nat),s8),
 ((9:Nat),s9),((10:Nat),s10w),
 ((11:Nat),s11w),((12:Nat),s12w),
 ((13:Nat),s13)]
 ((10:Nat))
 [AV.agg
 [AV.sl ((3:Nat)) (bxsL x.snd) Own.no],
 AV.agg
 [AV.str s,AV.bool b,
 AV.int IntKind.i64 n,AV.str s_3,
 AV.int IntKind.i64 n_4,
 AV.int IntKind.i64 n_5,
 AV.int IntKind.i64 n_6,AV.str s_4,
 AV.str s_5,AV.int IntKind.i64 n_7,
 AV.sl ((3:Nat)) es Own.no]])
 (AV.tup
 [AV.agg [AV.sl ((3:Nat)) es_1 Own.no],
 AV.bool b_1,
 AV.agg
 [AV.str s_6,AV.bool b_2,
 AV.int IntKind.i64 n_8,AV.str [],
 AV.int IntKind.i64 (0:Int),
 AV.int IntKind.i64 (0:Int),
 AV.int IntKind.i64 (0:Int),
 AV.str [],AV.str [],
 AV.int IntKind.i64 (0:Int),
 AV.sl ((3:Nat)) [] Own.no],
 AV.int IntKind.i64 n_9])
 [] ∧
 (b_1 = true →
 ((0:Int)≤(↑x.fst:Int) ∧
 (↑x.fst:Int) <
 (↑(pksL ps).length:Int)) ∧
 ∃ (s:List UInt8),
 ∃ (b:Bool),
 ∃ (n:Int),
 ∃ (s_7:List UInt8),
 ∃ (n_10:Int),
 ∃ (n_11:Int),
 ∃ (n_12:Int),
 ∃ (s_8:List UInt8),
 ∃ (s_9:List UInt8),
 ∃ (n_13:Int),
 ∃ (es:List AV),
 takeAt PI
 ((35:Nat))
 (pksL ps)
 (↑x.fst :
 Int).toNat
 ((0:Nat)) =
 some
 (AV.agg
 [AV.str s,
 AV.bool b,
 AV.int
 IntKind.i64
 n,
 AV.str
 s_7,
 AV.int
 IntKind.i64
 n_10,
 AV.int
 IntKind.i64
 n_11,
 AV.int
 IntKind.i64
 n_12,
 AV.str
 s_8,
 AV.str
 s_9,
 AV.int
 IntKind.i64
 n_13,
 AV.sl
 (nat_lit
 3)
 es
 Own.no]) ∧
 ∃ (es_2 :
 List AV),
 ∃ (b_3:Bool),
 ∃ (s_10 :
 List UInt8),
 ∃ (b_4 :
 Bool),
 ∃ (n_14 :
 Int),
 ∃ (n_15
 :
 Int),
 CallIs
 (tbl
 [(nat_lit
 7,
 s7),
 (nat_lit
 8,
 s8),
 (nat_lit
 9,
 s9),
 (nat_lit
 10,
 s10w),
 (nat_lit
 11,
 s11w),
 (nat_lit
 12,
 s12w),
 (nat_lit
 13,
 s13)]
 (nat_lit
 11)
 [AV.agg
 [AV.sl
 (nat_lit
 3)
 (bxsL
 x.snd)
 Own.no],
 AV.agg
 [AV.str
 s,
 AV.bool
 b,
 AV.int
 IntKind.i64
 n,
 AV.str
 s_7,
 AV.int
 IntKind.i64
 n_10,
 AV.int
 IntKind.i64
 n_11,
 AV.int
 IntKind.i64
 n_12,
 AV.str
 s_8,
 AV.str
 s_9,
 AV.int
 IntKind.i64
 n_13,
 AV.sl
 (nat_lit
 3)
 es
 Own.no]])
 (AV.tup
 [AV.agg
 [AV.sl
 (nat_lit
 3)
 es_2
 Own.no],
 AV.bool
 b_3,
 AV.agg
 [AV.str
 s_10,
 AV.bool
 b_4,
 AV.int
 IntKind.i64
 n_14,
 AV.str
 [],
 AV.int
 IntKind.i64
 (0 :
 Int),
 AV.int
 IntKind.i64
 (0 :
 Int),
 AV.int
 IntKind.i64
 (0 :
 Int),
 AV.str
 [],
 AV.str
 [],
 AV.int
 IntKind.i64
 (0 :
 Int),
 AV.sl
 (nat_lit
 3)
 []
 Own.no],
 AV.int
 IntKind.i64
 n_15])
 [] ∧
 (b_3 =
 true →
 ((n_9 !=
 n_15) =
 true →
 RetIs
 (AV.bool
 false)
 []
 (AV.bool
 true,
 [])) ∧
 ((n_9 !=
 n_15) =
 false →
 (false =
 true →
 RetIs
 (AV.bool
 false)
 []
 (AV.bool
 true,
 [])) ∧
 (false =
 false →
 ∃
 (b
 :
 Bool),
 CallIs
 (some
 (AV.bool
 (decide
 (s_6 =
 s_10 ∧
 b_2 =
 b_4 ∧
 n_8 =
 n_14)),
 []))
 (AV.bool
 b)
 [] ∧
 (b =
 true →
 ∃
 (b
 :
 Bool),
 CallIs
 (tbl
 [(nat_lit
 7,
 s7),
 (nat_lit
 8,
 s8),
 (nat_lit
 9,
 s9),
 (nat_lit
 10,
 s10w),
 (nat_lit
 11,
 s11w),
 (nat_lit
 12,
 s12w),
 (nat_lit
 13,
 s13)]
 (nat_lit
 13)
 [AV.agg
 [AV.sl
 (nat_lit
 3)
 es_1
 Own.no],
 AV.agg
 [AV.sl
 (nat_lit
 3)
 es_2
 Own.no]])
 (AV.bool
 b)
 [] ∧
 (b =
 true →
 ((n_9 ==
 (0 :
 Int)) =
 true →
 ∃
 (y
 :
 Nat ×
 List
 BxI),
 ValsAre
 [AV.sl
 (nat_lit
 11)
 (pksL
 ps)
 Own.no,
 AV.ptr
 (nat_lit
 1)
 (nat_lit
 0),
 AV.ptr
 (nat_lit
 2)
 (nat_lit
 0),
 AV.int
 IntKind.i64
 (IntKind.i64.wrap
 ((↑x.fst :
 Int) +
 (1 :
 Int)))]
 [AV.sl
 (nat_lit
 11)
 (pksL
 ps)
 Own.no,
 AV.ptr
 (nat_lit
 1)
 (nat_lit
 0),
 AV.ptr
 (nat_lit
 2)
 (nat_lit
 0),
 AV.int
 IntKind.i64
 (↑y.fst :
 Int)] ∧
 StIs
 { boxes:=[some [AV.sl (nat_lit 3) (bxsL r) Own.no],some [AV.sl (nat_lit 3) es_1 Own.no],some [AV.sl (nat_lit 3) es_2 Own.no]],live:=[] }
 { boxes:=[some [AV.sl (nat_lit 3) (bxsL r) Own.no],some [AV.sl (nat_lit 3) (bxsL y.snd) Own.no],some [AV.sl (nat_lit 3) (bxsL y.snd) Own.no]],live:=[] } ∧
 (y.fst ≤
 ps.length ∧
 ps.length ≤
 (40 :
 Nat) ∧
 rcvOk
 y.snd =
 true) ∧
 ps.length -
 y.fst <
 ps.length -
 x.fst) ∧
 ((n_9 ==
 (0 :
 Int)) =
 false →
 ∃
 (y
 :
 Nat ×
 List
 BxI),
 ValsAre
 [AV.sl
 (nat_lit
 11)
 (pksL
 ps)
 Own.no,
 AV.ptr
 (nat_lit
 1)
 (nat_lit
 0),
 AV.ptr
 (nat_lit
 2)
 (nat_lit
 0),
 AV.int
 IntKind.i64
 (IntKind.i64.wrap
 ((↑x.fst :
 Int) +
 (1 :
 Int)))]
 [AV.sl
 (nat_lit
 11)
 (pksL
 ps)
 Own.no,
 AV.ptr
 (nat_lit
 1)
 (nat_lit
 0),
 AV.ptr
 (nat_lit
 2)
 (nat_lit
 0),
 AV.int
 IntKind.i64
 (↑y.fst :
 Int)] ∧
 StIs
 { boxes:=[some [AV.sl (nat_lit 3) (bxsL r) Own.no],some [AV.sl (nat_lit 3) (bxsL x.snd) Own.no],some [AV.sl (nat_lit 3) (bxsL x.snd) Own.no]],live:=[] }
 { boxes:=[some [AV.sl (nat_lit 3) (bxsL r) Own.no],some [AV.sl (nat_lit 3) (bxsL y.snd) Own.no],some [AV.sl (nat_lit 3) (bxsL y.snd) Own.no]],live:=[] } ∧
 (y.fst ≤
 ps.length ∧
 ps.length ≤
 (40 :
 Nat) ∧
 rcvOk
 y.snd =
 true) ∧
 ps.length -
 y.fst <
 ps.length -
 x.fst)) ∧
 (b =
 false →
 RetIs
 (AV.bool
 false)
 []
 (AV.bool
 true,
 []))) ∧
 (b =
 false →
 RetIs
 (AV.bool
 false)
 []
 (AV.bool
 true,
 []))))) ∧
 (b_3 =
 false →
 ((n_9 !=
 n_15) =
 true →
 RetIs
 (AV.bool
 false)
 []
 (AV.bool
 true,
 [])) ∧
 ((n_9 !=
 n_15) =
 false →
 (true =
 true →
 RetIs
 (AV.bool
 false)
 []
 (AV.bool
 true,
 [])) ∧
 (true =
 false →
 ∃
 (b
 :
 Bool),
 CallIs
 (some
 (AV.bool
 (decide
 (s_6 =
 s_10 ∧
 b_2 =
 b_4 ∧
 n_8 =
 n_14)),
 []))
 (AV.bool
 b)
 [] ∧
 (b =
 true →
 ∃
 (b
 :
 Bool),
 CallIs
 (tbl
 [(nat_lit
 7,
 s7),
 (nat_lit
 8,
 s8),
 (nat_lit
 9,
 s9),
 (nat_lit
 10,
 s10w),
 (nat_lit
 11,
 s11w),
 (nat_lit
 12,
 s12w),
 (nat_lit
 13,
 s13)]
 (nat_lit
 13)
 [AV.agg
 [AV.sl
 (nat_lit
 3)
 es_1
 Own.no],
 AV.agg
 [AV.sl
 (nat_lit
 3)
 es_2
 Own.no]])
 (AV.bool
 b)
 [] ∧
 (b =
 true →
 ((n_9 ==
 (0 :
 Int)) =
 true →
 ∃
 (y
 :
 Nat ×
 List
 BxI),
 ValsAre
 [AV.sl
 (nat_lit
 11)
 (pksL
 ps)
 Own.no,
 AV.ptr
 (nat_lit
 1)
 (nat_lit
 0),
 AV.ptr
 (nat_lit
 2)
 (nat_lit
 0),
 AV.int
 IntKind.i64
 (IntKind.i64.wrap
 ((↑x.fst :
 Int) +
 (1 :
 Int)))]
 [AV.sl
 (nat_lit
 11)
 (pksL
 ps)
 Own.no,
 AV.ptr
 (nat_lit
 1)
 (nat_lit
 0),
 AV.ptr
 (nat_lit
 2)
 (nat_lit
 0),
 AV.int
 IntKind.i64
 (↑y.fst :
 Int)] ∧
 StIs
 { boxes:=[some [AV.sl (nat_lit 3) (bxsL r) Own.no],some [AV.sl (nat_lit 3) es_1 Own.no],some [AV.sl (nat_lit 3) es_2 Own.no]],live:=[] }
 { boxes:=[some [AV.sl (nat_lit 3) (bxsL r) Own.no],some [AV.sl (nat_lit 3) (bxsL y.snd) Own.no],some [AV.sl (nat_lit 3) (bxsL y.snd) Own.no]],live:=[] } ∧
 (y.fst ≤
 ps.length ∧
 ps.length ≤
 (40 :
 Nat) ∧
 rcvOk
 y.snd =
 true) ∧
 ps.length -
 y.fst <
 ps.length -
 x.fst) ∧
 ((n_9 ==
 (0 :
 Int)) =
 false →
 ∃
 (y
 :
 Nat ×
 List
 BxI),
 ValsAre
 [AV.sl
 (nat_lit
 11)
 (pksL
 ps)
 Own.no,
 AV.ptr
 (nat_lit
 1)
 (nat_lit
 0),
 AV.ptr
 (nat_lit
 2)
 (nat_lit
 0),
 AV.int
 IntKind.i64
 (IntKind.i64.wrap
 ((↑x.fst :
 Int) +
 (1 :
 Int)))]
 [AV.sl
 (nat_lit
 11)
 (pksL
 ps)
 Own.no,
 AV.ptr
 (nat_lit
 1)
 (nat_lit
 0),
 AV.ptr
 (nat_lit
 2)
 (nat_lit
 0),
 AV.int
 IntKind.i64
 (↑y.fst :
 Int)] ∧
 StIs
 { boxes:=[some [AV.sl (nat_lit 3) (bxsL r) Own.no],some [AV.sl (nat_lit 3) (bxsL x.snd) Own.no],some [AV.sl (nat_lit 3) (bxsL x.snd) Own.no]],live:=[] }
 { boxes:=[some [AV.sl (nat_lit 3) (bxsL r) Own.no],some [AV.sl (nat_lit 3) (bxsL y.snd) Own.no],some [AV.sl (nat_lit 3) (bxsL y.snd) Own.no]],live:=[] } ∧
 (y.fst ≤
 ps.length ∧
 ps.length ≤
 (40 :
 Nat) ∧
 rcvOk
 y.snd =
 true) ∧
 ps.length -
 y.fst <
 ps.length -
 x.fst)) ∧
 (b =
 false →
 RetIs
 (AV.bool
 false)
 []
 (AV.bool
 true,
 []))) ∧
 (b =
 false →
 RetIs
 (AV.bool
 false)
 []
 (AV.bool
 true,
 [])))))) ∧
 (b_1 = false →
 ((0:Int)≤(↑x.fst:Int) ∧
 (↑x.fst:Int) <
 (↑(pksL ps).length:Int)) ∧
 ∃ (s:List UInt8),
 ∃ (b:Bool),
 ∃ (n:Int),
 ∃ (s_7:List UInt8),
 ∃ (n_10:Int),
 ∃ (n_11:Int),
 ∃ (n_12:Int),
 ∃ (s_8:List UInt8),
 ∃ (s_9:List UInt8),
 ∃ (n_13:Int),
 ∃ (es:List AV),
 takeAt PI
 ((35:Nat))
 (pksL ps)
 (↑x.fst :
 Int).toNat
 ((0:Nat)) =
 some
 (AV.agg
 [AV.str s,
 AV.bool b,
 AV.int
 IntKind.i64
 n,
 AV.str
 s_7,
 AV.int
 IntKind.i64
 n_10,
 AV.int
 IntKind.i64
 n_11,
 AV.int
 IntKind.i64
 n_12,
 AV.str
 s_8,
 AV.str
 s_9,
 AV.int
 IntKind.i64
 n_13,
 AV.sl
 (nat_lit
 3)
 es
 Own.no]) ∧
 ∃ (es_2 :
 List AV),
 ∃ (b_3:Bool),
 ∃ (s_10 :
 List UInt8),
 ∃ (b_4 :
 Bool),
 ∃ (n_14 :
 Int),
 ∃ (n_15
 :
 Int),
 CallIs
 (tbl
 [(nat_lit
 7,
 s7),
 (nat_lit
 8,
 s8),
 (nat_lit
 9,
 s9),
 (nat_lit
 10,
 s10w),
 (nat_lit
 11,
 s11w),
 (nat_lit
 12,
 s12w),
 (nat_lit
 13,
 s13)]
 (nat_lit
 11)
 [AV.agg
 [AV.sl
 (nat_lit
 3)
 (bxsL
 x.snd)
 Own.no],
 AV.agg
 [AV.str
 s,
 AV.bool
 b,
 AV.int
 IntKind.i64
 n,
 AV.str
 s_7,
 AV.int
 IntKind.i64
 n_10,
 AV.int
 IntKind.i64
 n_11,
 AV.int
 IntKind.i64
 n_12,
 AV.str
 s_8,
 AV.str
 s_9,
 AV.int
 IntKind.i64
 n_13,
 AV.sl
 (nat_lit
 3)
 es
 Own.no]])
 (AV.tup
 [AV.agg
 [AV.sl
 (nat_lit
 3)
 es_2
 Own.no],
 AV.bool
 b_3,
 AV.agg
 [AV.str
 s_10,
 AV.bool
 b_4,
 AV.int
 IntKind.i64
 n_14,
 AV.str
 [],
 AV.int
 IntKind.i64
 (0 :
 Int),
 AV.int
 IntKind.i64
 (0 :
 Int),
 AV.int
 IntKind.i64
 (0 :
 Int),
 AV.str
 [],
 AV.str
 [],
 AV.int
 IntKind.i64
 (0 :
 Int),
 AV.sl
 (nat_lit
 3)
 []
 Own.no],
 AV.int
 IntKind.i64
 n_15])
 [] ∧
 (b_3 =
 true →
 ((n_9 !=
 n_15) =
 true →
 RetIs
 (AV.bool
 false)
 []
 (AV.bool
 true,
 [])) ∧
 ((n_9 !=
 n_15) =
 false →
 (true =
 true →
 RetIs
 (AV.bool
 false)
 []
 (AV.bool
 true,
 [])) ∧
 (true =
 false →
 ∃
 (b
 :
 Bool),
 CallIs
 (some
 (AV.bool
 (decide
 (s_6 =
 s_10 ∧
 b_2 =
 b_4 ∧
 n_8 =
 n_14)),
 []))
 (AV.bool
 b)
 [] ∧
 (b =
 true →
 ∃
 (b
 :
 Bool),
 CallIs
 (tbl
 [(nat_lit
 7,
 s7),
 (nat_lit
 8,
 s8),
 (nat_lit
 9,
 s9),
 (nat_lit
 10,
 s10w),
 (nat_lit
 11,
 s11w),
 (nat_lit
 12,
 s12w),
 (nat_lit
 13,
 s13)]
 (nat_lit
 13)
 [AV.agg
 [AV.sl
 (nat_lit
 3)
 es_1
 Own.no],
 AV.agg
 [AV.sl
 (nat_lit
 3)
 es_2
 Own.no]])
 (AV.bool
 b)
 [] ∧
 (b =
 true →
 ((n_9 ==
 (0 :
 Int)) =
 true →
 ∃
 (y
 :
 Nat ×
 List
 BxI),
 ValsAre
 [AV.sl
 (nat_lit
 11)
 (pksL
 ps)
 Own.no,
 AV.ptr
 (nat_lit
 1)
 (nat_lit
 0),
 AV.ptr
 (nat_lit
 2)
 (nat_lit
 0),
 AV.int
 IntKind.i64
 (IntKind.i64.wrap
 ((↑x.fst :
 Int) +
 (1 :
 Int)))]
 [AV.sl
 (nat_lit
 11)
 (pksL
 ps)
 Own.no,
 AV.ptr
 (nat_lit
 1)
 (nat_lit
 0),
 AV.ptr
 (nat_lit
 2)
 (nat_lit
 0),
 AV.int
 IntKind.i64
 (↑y.fst :
 Int)] ∧
 StIs
 { boxes:=[some [AV.sl (nat_lit 3) (bxsL r) Own.no],some [AV.sl (nat_lit 3) es_1 Own.no],some [AV.sl (nat_lit 3) es_2 Own.no]],live:=[] }
 { boxes:=[some [AV.sl (nat_lit 3) (bxsL r) Own.no],some [AV.sl (nat_lit 3) (bxsL y.snd) Own.no],some [AV.sl (nat_lit 3) (bxsL y.snd) Own.no]],live:=[] } ∧
 (y.fst ≤
 ps.length ∧
 ps.length ≤
 (40 :
 Nat) ∧
 rcvOk
 y.snd =
 true) ∧
 ps.length -
 y.fst <
 ps.length -
 x.fst) ∧
 ((n_9 ==
 (0 :
 Int)) =
 false →
 ∃
 (y
 :
 Nat ×
 List
 BxI),
 ValsAre
 [AV.sl
 (nat_lit
 11)
 (pksL
 ps)
 Own.no,
 AV.ptr
 (nat_lit
 1)
 (nat_lit
 0),
 AV.ptr
 (nat_lit
 2)
 (nat_lit
 0),
 AV.int
 IntKind.i64
 (IntKind.i64.wrap
 ((↑x.fst :
 Int) +
 (1 :
 Int)))]
 [AV.sl
 (nat_lit
 11)
 (pksL
 ps)
 Own.no,
 AV.ptr
 (nat_lit
 1)
 (nat_lit
 0),
 AV.ptr
 (nat_lit
 2)
 (nat_lit
 0),
 AV.int
 IntKind.i64
 (↑y.fst :
 Int)] ∧
 StIs
 { boxes:=[some [AV.sl (nat_lit 3) (bxsL r) Own.no],some [AV.sl (nat_lit 3) (bxsL x.snd) Own.no],some [AV.sl (nat_lit 3) (bxsL x.snd) Own.no]],live:=[] }
 { boxes:=[some [AV.sl (nat_lit 3) (bxsL r) Own.no],some [AV.sl (nat_lit 3) (bxsL y.snd) Own.no],some [AV.sl (nat_lit 3) (bxsL y.snd) Own.no]],live:=[] } ∧
 (y.fst ≤
 ps.length ∧
 ps.length ≤
 (40 :
 Nat) ∧
 rcvOk
 y.snd =
 true) ∧
 ps.length -
 y.fst <
 ps.length -
 x.fst)) ∧
 (b =
 false →
 RetIs
 (AV.bool
 false)
 []
 (AV.bool
 true,
 []))) ∧
 (b =
 false →
 RetIs
 (AV.bool
 false)
 []
 (AV.bool
 true,
 []))))) ∧
 (b_3 =
 false →
 ((n_9 !=
 n_15) =
 true →
 RetIs
 (AV.bool
 false)
 []
 (AV.bool
 true,
 [])) ∧
 ((n_9 !=
 n_15) =
 false →
 (false =
 true →
 RetIs
 (AV.bool
 false)
 []
 (AV.bool
 true,
 [])) ∧
 (false =
 false →
 ∃
 (b
 :
 Bool),
 CallIs
 (some
 (AV.bool
 (decide
 (s_6 =
 s_10 ∧
 b_2 =
 b_4 ∧
 n_8 =
 n_14)),
 []))
 (AV.bool
 b)
 [] ∧
 (b =
 true →
 ∃
 (b
 :
 Bool),
 CallIs
 (tbl
 [(nat_lit
 7,
 s7),
 (nat_lit
 8,
 s8),
 (nat_lit
 9,
 s9),
 (nat_lit
 10,
 s10w),
 (nat_lit
 11,
 s11w),
 (nat_lit
 12,
 s12w),
 (nat_lit
 13,
 s13)]
 (nat_lit
 13)
 [AV.agg
 [AV.sl
 (nat_lit
 3)
 es_1
 Own.no],
 AV.agg
 [AV.sl
 (nat_lit
 3)
 es_2
 Own.no]])
 (AV.bool
 b)
 [] ∧
 (b =
 true →
 ((n_9 ==
 (0 :
 Int)) =
 true →
 ∃
 (y
 :
 Nat ×
 List
 BxI),
 ValsAre
 [AV.sl
 (nat_lit
 11)
 (pksL
 ps)
 Own.no,
 AV.ptr
 (nat_lit
 1)
 (nat_lit
 0),
 AV.ptr
 (nat_lit
 2)
 (nat_lit
 0),
 AV.int
 IntKind.i64
 (IntKind.i64.wrap
 ((↑x.fst :
 Int) +
 (1 :
 Int)))]
 [AV.sl
 (nat_lit
 11)
 (pksL
 ps)
 Own.no,
 AV.ptr
 (nat_lit
 1)
 (nat_lit
 0),
 AV.ptr
 (nat_lit
 2)
 (nat_lit
 0),
 AV.int
 IntKind.i64
 (↑y.fst :
 Int)] ∧
 StIs
 { boxes:=[some [AV.sl (nat_lit 3) (bxsL r) Own.no],some [AV.sl (nat_lit 3) es_1 Own.no],some [AV.sl (nat_lit 3) es_2 Own.no]],live:=[] }
 { boxes:=[some [AV.sl (nat_lit 3) (bxsL r) Own.no],some [AV.sl (nat_lit 3) (bxsL y.snd) Own.no],some [AV.sl (nat_lit 3) (bxsL y.snd) Own.no]],live:=[] } ∧
 (y.fst ≤
 ps.length ∧
 ps.length ≤
 (40 :
 Nat) ∧
 rcvOk
 y.snd =
 true) ∧
 ps.length -
 y.fst <
 ps.length -
 x.fst) ∧
 ((n_9 ==
 (0 :
 Int)) =
 false →
 ∃
 (y
 :
 Nat ×
 List
 BxI),
 ValsAre
 [AV.sl
 (nat_lit
 11)
 (pksL
 ps)
 Own.no,
 AV.ptr
 (nat_lit
 1)
 (nat_lit
 0),
 AV.ptr
 (nat_lit
 2)
 (nat_lit
 0),
 AV.int
 IntKind.i64
 (IntKind.i64.wrap
 ((↑x.fst :
 Int) +
 (1 :
 Int)))]
 [AV.sl
 (nat_lit
 11)
 (pksL
 ps)
 Own.no,
 AV.ptr
 (nat_lit
 1)
 (nat_lit
 0),
 AV.ptr
 (nat_lit
 2)
 (nat_lit
 0),
 AV.int
 IntKind.i64
 (↑y.fst :
 Int)] ∧
 StIs
 { boxes:=[some [AV.sl (nat_lit 3) (bxsL r) Own.no],some [AV.sl (nat_lit 3) (bxsL x.snd) Own.no],some [AV.sl (nat_lit 3) (bxsL x.snd) Own.no]],live:=[] }
 { boxes:=[some [AV.sl (nat_lit 3) (bxsL r) Own.no],some [AV.sl (nat_lit 3) (bxsL y.snd) Own.no],some [AV.sl (nat_lit 3) (bxsL y.snd) Own.no]],live:=[] } ∧
 (y.fst ≤
 ps.length ∧
 ps.length ≤
 (40 :
 Nat) ∧
 rcvOk
 y.snd =
 true) ∧
 ps.length -
 y.fst <
 ps.length -
 x.fst)) ∧
 (b =
 false →
 RetIs
 (AV.bool
 false)
 []
 (AV.bool
 true,
 []))) ∧
 (b =
 false →
 RetIs
 (AV.bool
 false)
 []
 (AV.bool
 true,
 [])))))))) ∧
 (b = false→RetIs (AV.bool true) [] (AV.bool true,[]))) ∧
 (decide ((↑x.fst:Int) < (↑(pksL ps).length:Int)) = false→RetIs (AV.bool true) [] (AV.bool true,[]))) ∧
 (b = false→RetIs (AV.bool true) [] (AV.bool true,[]))))) ∧
      (b = false→RetIs (AV.bool false) [] (AV.bool true,[]))):=by kernel_rfl
end Go.Abs
