/- Own texts, part 7. -/
import Derived.Test.YtfcdefnkhkijaaaGreatDoorPart6
import Derived.Test.YtfcdefnkhkijaaaGreatDoorPart5
import Derived.Test.YtfcdefnkhkijaaaGreatDoorPart3

namespace Go.Abs
open Go.Proofs
theorem w6 (m:Int) (x:Rq) (q:Int) (r:AV):(pureW PQ (GQ m) XNs (tbl t6) (itbl []) (a6 x q) [] 6 [rqA x,.int .i64 q] (r,[])) =
((∃ (b:Bool),
    CallIs
        (tbl
 [((10:Nat),s10),((21:Nat),s21),((23:Nat),s23),((22:Nat),s22),((24:Nat),s24),((26:Nat),laxS s26),((25:Nat),laxS s25),
 ((27:Nat),s27),((16:Nat),sTrue)]
 ((10:Nat))
 [AV.agg
 [AV.str x.entity,AV.sl ((1:Nat)) (strsL x.feats) Own.no,AV.sl ((3:Nat)) (lbsL x.labels) Own.no,AV.int IntKind.i64 x.seed,
 AV.int IntKind.i64 x.permille]])
        (AV.bool b) [] ∧
      (b = true →
 (decide ((↑(lbsL x.labels).length:Int) > (150:Int)) = true→RetIs (AV.bool true) [] (r,[])) ∧
 (decide ((↑(lbsL x.labels).length:Int) > (150:Int)) = false →
 ∃ (_y:Unit),
 ValsAre [AV.int IntKind.i64 q,AV.ptr ((0:Nat)) ((0:Nat))] [AV.int IntKind.i64 q,AV.ptr ((0:Nat)) ((0:Nat))] ∧
 StIs
 { boxes:=[some [AV.str x.entity,AV.sl ((1:Nat)) (strsL x.feats) Own.no,AV.sl ((3:Nat)) (lbsL x.labels) Own.no,AV.int IntKind.i64 x.seed,AV.int IntKind.i64 x.permille]],live:=[] }
 { boxes:=[some [AV.str x.entity,AV.sl ((1:Nat)) (strsL x.feats) Own.no,AV.sl ((3:Nat)) (lbsL x.labels) Own.no,AV.int IntKind.i64 x.seed,AV.int IntKind.i64 x.permille]],live:=[] } ∧
 (fewB x = true∧x.labels.length≤(150:Nat))∧True)) ∧
        (b = false→RetIs (AV.bool true) [] (r,[]))) ∧
  ∀ (_x_1:Unit),
    fewB x = true∧x.labels.length≤(150:Nat) →
      True →
        ∃ (es:List AV),
 CallIs
 (tbl
 [((10:Nat),s10),((21:Nat),s21),((23:Nat),s23),((22:Nat),s22),((24:Nat),s24),((26:Nat),laxS s26),((25:Nat),laxS s25),
 ((27:Nat),s27),((16:Nat),sTrue)]
 ((21:Nat)) [AV.sl ((3:Nat)) (lbsL x.labels) Own.no])
 (AV.sl ((3:Nat)) es Own.no) [] ∧
 ∃ (es_1:List AV),
 CallIs
 (tbl
 [((10:Nat),s10),((21:Nat),s21),((23:Nat),s23),((22:Nat),s22),((24:Nat),s24),((26:Nat),laxS s26),
 ((25:Nat),laxS s25),((27:Nat),s27),((16:Nat),sTrue)]
 ((23:Nat))
 [AV.agg
 [AV.str x.entity,AV.sl ((1:Nat)) (strsL x.feats) Own.no,AV.sl ((3:Nat)) (lbsL x.labels) Own.no,AV.int IntKind.i64 x.seed,
 AV.int IntKind.i64 (1000:Int)]])
 (AV.sl ((3:Nat)) es_1 Own.no) [] ∧
 ∃ (b:Bool),
 CallIs
 (tbl
 [((10:Nat),s10),((21:Nat),s21),((23:Nat),s23),((22:Nat),s22),((24:Nat),s24),((26:Nat),laxS s26),
 ((25:Nat),laxS s25),((27:Nat),s27),((16:Nat),sTrue)]
 ((22:Nat)) [AV.sl ((3:Nat)) es_1 Own.no,AV.sl ((3:Nat)) es Own.no])
 (AV.bool b) [] ∧
 (b = true →
 ∃ (es_2:List AV),
 CallIs
 (tbl
 [((10:Nat),s10),((21:Nat),s21),((23:Nat),s23),((22:Nat),s22),((24:Nat),s24),((26:Nat),laxS s26),
 ((25:Nat),laxS s25),((27:Nat),s27),((16:Nat),sTrue)]
 ((23:Nat))
 [AV.agg
 [AV.str x.entity,AV.sl ((1:Nat)) (strsL x.feats) Own.no,AV.sl ((3:Nat)) (lbsL x.labels) Own.no,
 AV.int IntKind.i64 x.seed,AV.int IntKind.i64 (0:Int)]])
 (AV.sl ((3:Nat)) es_2 Own.no) [] ∧
 (((↑es_2.length:Int) != (0:Int)) = true→RetIs (AV.bool false) [] (r,[])) ∧
 (((↑es_2.length:Int) != (0:Int)) = false →
 ∃ (es_3:List AV),
 CallIs
 (tbl
 [((10:Nat),s10),((21:Nat),s21),((23:Nat),s23),((22:Nat),s22),((24:Nat),s24),((26:Nat),laxS s26),
 ((25:Nat),laxS s25),((27:Nat),s27),((16:Nat),sTrue)]
 ((23:Nat))
 [AV.agg
 [AV.str x.entity,AV.sl ((1:Nat)) (strsL x.feats) Own.no,AV.sl ((3:Nat)) (lbsL x.labels) Own.no,
 AV.int IntKind.i64 x.seed,AV.int IntKind.i64 x.permille]])
 (AV.sl ((3:Nat)) es_3 Own.no) [] ∧
 ∃ (es_4:List AV),
 CallIs
 (tbl
 [((10:Nat),s10),((21:Nat),s21),((23:Nat),s23),((22:Nat),s22),((24:Nat),s24),
 ((26:Nat),laxS s26),((25:Nat),laxS s25),((27:Nat),s27),((16:Nat),sTrue)]
 ((23:Nat))
 [AV.agg
 [AV.str x.entity,AV.sl ((1:Nat)) (strsL x.feats) Own.no,AV.sl ((3:Nat)) (lbsL x.labels) Own.no,
 AV.int IntKind.i64 x.seed,AV.int IntKind.i64 q]])
 (AV.sl ((3:Nat)) es_4 Own.no) [] ∧
 (∃ (y:Nat),
 ValsAre
 [AV.int IntKind.i64 q,AV.ptr ((0:Nat)) ((0:Nat)),AV.sl ((3:Nat)) es Own.no,
 AV.sl ((3:Nat)) es_3 Own.no,AV.sl ((3:Nat)) es_4 Own.no,AV.int IntKind.i64 (0:Int)]
 [AV.int IntKind.i64 q,AV.ptr ((0:Nat)) ((0:Nat)),AV.sl ((3:Nat)) (lbsL (srtU x.labels)) Own.no,
 AV.sl ((3:Nat)) (lbsL (smpL x)) Own.no,AV.sl ((3:Nat)) (lbsL (smpL (pmR x q))) Own.no,
 AV.int IntKind.i64 (↑y:Int)] ∧
 StIs
 { boxes:=[some [AV.str x.entity,AV.sl ((1:Nat)) (strsL x.feats) Own.no,AV.sl ((3:Nat)) (lbsL x.labels) Own.no,AV.int IntKind.i64 x.seed,AV.int IntKind.i64 x.permille],some [AV.str x.entity,AV.sl ((1:Nat)) (strsL x.feats) Own.no,AV.sl ((3:Nat)) (lbsL x.labels) Own.no,AV.int IntKind.i64 x.seed,AV.int IntKind.i64 (1000:Int)],some [AV.str x.entity,AV.sl ((1:Nat)) (strsL x.feats) Own.no,AV.sl ((3:Nat)) (lbsL x.labels) Own.no,AV.int IntKind.i64 x.seed,AV.int IntKind.i64 (0:Int)],some [AV.str x.entity,AV.sl ((1:Nat)) (strsL x.feats) Own.no,AV.sl ((3:Nat)) (lbsL x.labels) Own.no,AV.int IntKind.i64 x.seed,AV.int IntKind.i64 q]],live:=[] }
 { boxes:=[some [AV.str x.entity,AV.sl ((1:Nat)) (strsL x.feats) Own.no,AV.sl ((3:Nat)) (lbsL x.labels) Own.no,AV.int IntKind.i64 x.seed,AV.int IntKind.i64 x.permille],some [AV.str (pmR x (1000:Int)).entity,AV.sl ((1:Nat)) (strsL (pmR x (1000:Int)).feats) Own.no,AV.sl ((3:Nat)) (lbsL (pmR x (1000:Int)).labels) Own.no,AV.int IntKind.i64 (pmR x (1000:Int)).seed,AV.int IntKind.i64 (pmR x (1000:Int)).permille],some [AV.str (pmR x (0:Int)).entity,AV.sl ((1:Nat)) (strsL (pmR x (0:Int)).feats) Own.no,AV.sl ((3:Nat)) (lbsL (pmR x (0:Int)).labels) Own.no,AV.int IntKind.i64 (pmR x (0:Int)).seed,AV.int IntKind.i64 (pmR x (0:Int)).permille],some [AV.str (pmR x q).entity,AV.sl ((1:Nat)) (strsL (pmR x q).feats) Own.no,AV.sl ((3:Nat)) (lbsL (pmR x q).labels) Own.no,AV.int IntKind.i64 (pmR x q).seed,AV.int IntKind.i64 (pmR x q).permille]],live:=[] } ∧
 y≤(smpL x).length∧True) ∧
 ∀ (x_2:Nat),
 x_2≤(smpL x).length →
 (decide ((↑x_2:Int) < (↑(lbsL (smpL x)).length:Int)) = true →
 (decide (q ≥ x.permille) = true →
 ((0:Int)≤(↑x_2:Int)∧(↑x_2:Int) < (↑(lbsL (smpL x)).length:Int)) ∧
 ∃ (s:List UInt8),
 ∃ (n:Int),
 ∃ (n_1:Int),
 takeAt PQ ((65:Nat)) (lbsL (smpL x)) (↑x_2:Int).toNat ((0:Nat)) =
 some (AV.agg [AV.str s,AV.int IntKind.i64 n,AV.int IntKind.i64 n_1]) ∧
 ∃ (b:Bool),
 CallIs
 (tbl
 [((10:Nat),s10),((21:Nat),s21),((23:Nat),s23),((22:Nat),s22),
 ((24:Nat),s24),((26:Nat),laxS s26),((25:Nat),laxS s25),((27:Nat),s27),
 ((16:Nat),sTrue)]
 ((24:Nat))
 [AV.sl ((3:Nat)) (lbsL (smpL (pmR x q))) Own.no,
 AV.agg [AV.str s,AV.int IntKind.i64 n,AV.int IntKind.i64 n_1]])
 (AV.bool b) [] ∧
 (b = true →
 ∃ (y:Nat),
 ValsAre
 [AV.int IntKind.i64 q,AV.ptr ((0:Nat)) ((0:Nat)),
 AV.sl ((3:Nat)) (lbsL (srtU x.labels)) Own.no,
 AV.sl ((3:Nat)) (lbsL (smpL x)) Own.no,
 AV.sl ((3:Nat)) (lbsL (smpL (pmR x q))) Own.no,
 AV.int IntKind.i64 (IntKind.i64.wrap ((↑x_2:Int) + (1:Int)))]
 [AV.int IntKind.i64 q,AV.ptr ((0:Nat)) ((0:Nat)),
 AV.sl ((3:Nat)) (lbsL (srtU x.labels)) Own.no,
 AV.sl ((3:Nat)) (lbsL (smpL x)) Own.no,
 AV.sl ((3:Nat)) (lbsL (smpL (pmR x q))) Own.no,
 AV.int IntKind.i64 (↑y:Int)] ∧
 StIs
 { boxes:=[some [AV.str x.entity,AV.sl ((1:Nat)) (strsL x.feats) Own.no,AV.sl ((3:Nat)) (lbsL x.labels) Own.no,AV.int IntKind.i64 x.seed,AV.int IntKind.i64 x.permille],some [AV.str (pmR x (1000:Int)).entity,AV.sl ((1:Nat)) (strsL (pmR x (1000:Int)).feats) Own.no,AV.sl ((3:Nat)) (lbsL (pmR x (1000:Int)).labels) Own.no,AV.int IntKind.i64 (pmR x (1000:Int)).seed,AV.int IntKind.i64 (pmR x (1000:Int)).permille],some [AV.str (pmR x (0:Int)).entity,AV.sl ((1:Nat)) (strsL (pmR x (0:Int)).feats) Own.no,AV.sl ((3:Nat)) (lbsL (pmR x (0:Int)).labels) Own.no,AV.int IntKind.i64 (pmR x (0:Int)).seed,AV.int IntKind.i64 (pmR x (0:Int)).permille],some [AV.str (pmR x q).entity,AV.sl ((1:Nat)) (strsL (pmR x q).feats) Own.no,AV.sl ((3:Nat)) (lbsL (pmR x q).labels) Own.no,AV.int IntKind.i64 (pmR x q).seed,AV.int IntKind.i64 (pmR x q).permille]],live:=[] }
 { boxes:=[some [AV.str x.entity,AV.sl ((1:Nat)) (strsL x.feats) Own.no,AV.sl ((3:Nat)) (lbsL x.labels) Own.no,AV.int IntKind.i64 x.seed,AV.int IntKind.i64 x.permille],some [AV.str (pmR x (1000:Int)).entity,AV.sl ((1:Nat)) (strsL (pmR x (1000:Int)).feats) Own.no,AV.sl ((3:Nat)) (lbsL (pmR x (1000:Int)).labels) Own.no,AV.int IntKind.i64 (pmR x (1000:Int)).seed,AV.int IntKind.i64 (pmR x (1000:Int)).permille],some [AV.str (pmR x (0:Int)).entity,AV.sl ((1:Nat)) (strsL (pmR x (0:Int)).feats) Own.no,AV.sl ((3:Nat)) (lbsL (pmR x (0:Int)).labels) Own.no,AV.int IntKind.i64 (pmR x (0:Int)).seed,AV.int IntKind.i64 (pmR x (0:Int)).permille],some [AV.str (pmR x q).entity,AV.sl ((1:Nat)) (strsL (pmR x q).feats) Own.no,AV.sl ((3:Nat)) (lbsL (pmR x q).labels) Own.no,AV.int IntKind.i64 (pmR x q).seed,AV.int IntKind.i64 (pmR x q).permille]],live:=[] } ∧
 y≤(smpL x).length∧(smpL x).length - y < (smpL x).length - x_2) ∧
 (b = false→RetIs (AV.bool false) [] (r,[]))) ∧
 (decide (q ≥ x.permille) = false →
 ∃ (y:Nat),
 ValsAre
 [AV.int IntKind.i64 q,AV.ptr ((0:Nat)) ((0:Nat)),
 AV.sl ((3:Nat)) (lbsL (srtU x.labels)) Own.no,AV.sl ((3:Nat)) (lbsL (smpL x)) Own.no,
 AV.sl ((3:Nat)) (lbsL (smpL (pmR x q))) Own.no,
 AV.int IntKind.i64 (IntKind.i64.wrap ((↑x_2:Int) + (1:Int)))]
 [AV.int IntKind.i64 q,AV.ptr ((0:Nat)) ((0:Nat)),
 AV.sl ((3:Nat)) (lbsL (srtU x.labels)) Own.no,AV.sl ((3:Nat)) (lbsL (smpL x)) Own.no,
 AV.sl ((3:Nat)) (lbsL (smpL (pmR x q))) Own.no,AV.int IntKind.i64 (↑y:Int)] ∧
 StIs
 { boxes:=[some [AV.str x.entity,AV.sl ((1:Nat)) (strsL x.feats) Own.no,AV.sl ((3:Nat)) (lbsL x.labels) Own.no,AV.int IntKind.i64 x.seed,AV.int IntKind.i64 x.permille],some [AV.str (pmR x (1000:Int)).entity,AV.sl ((1:Nat)) (strsL (pmR x (1000:Int)).feats) Own.no,AV.sl ((3:Nat)) (lbsL (pmR x (1000:Int)).labels) Own.no,AV.int IntKind.i64 (pmR x (1000:Int)).seed,AV.int IntKind.i64 (pmR x (1000:Int)).permille],some [AV.str (pmR x (0:Int)).entity,AV.sl ((1:Nat)) (strsL (pmR x (0:Int)).feats) Own.no,AV.sl ((3:Nat)) (lbsL (pmR x (0:Int)).labels) Own.no,AV.int IntKind.i64 (pmR x (0:Int)).seed,AV.int IntKind.i64 (pmR x (0:Int)).permille],some [AV.str (pmR x q).entity,AV.sl ((1:Nat)) (strsL (pmR x q).feats) Own.no,AV.sl ((3:Nat)) (lbsL (pmR x q).labels) Own.no,AV.int IntKind.i64 (pmR x q).seed,AV.int IntKind.i64 (pmR x q).permille]],live:=[] }
 { boxes:=[some [AV.str x.entity,AV.sl ((1:Nat)) (strsL x.feats) Own.no,AV.sl ((3:Nat)) (lbsL x.labels) Own.no,AV.int IntKind.i64 x.seed,AV.int IntKind.i64 x.permille],some [AV.str (pmR x (1000:Int)).entity,AV.sl ((1:Nat)) (strsL (pmR x (1000:Int)).feats) Own.no,AV.sl ((3:Nat)) (lbsL (pmR x (1000:Int)).labels) Own.no,AV.int IntKind.i64 (pmR x (1000:Int)).seed,AV.int IntKind.i64 (pmR x (1000:Int)).permille],some [AV.str (pmR x (0:Int)).entity,AV.sl ((1:Nat)) (strsL (pmR x (0:Int)).feats) Own.no,AV.sl ((3:Nat)) (lbsL (pmR x (0:Int)).labels) Own.no,AV.int IntKind.i64 (pmR x (0:Int)).seed,AV.int IntKind.i64 (pmR x (0:Int)).permille],some [AV.str (pmR x q).entity,AV.sl ((1:Nat)) (strsL (pmR x q).feats) Own.no,AV.sl ((3:Nat)) (lbsL (pmR x q).labels) Own.no,AV.int IntKind.i64 (pmR x q).seed,AV.int IntKind.i64 (pmR x q).permille]],live:=[] } ∧
 y≤(smpL x).length∧(smpL x).length - y < (smpL x).length - x_2)) ∧
 (decide ((↑x_2:Int) < (↑(lbsL (smpL x)).length:Int)) = false →
 (∃ (y:Nat),
 ValsAre
 [AV.ptr ((0:Nat)) ((0:Nat)),AV.sl ((3:Nat)) (lbsL (srtU x.labels)) Own.no,
 AV.sl ((3:Nat)) (lbsL (smpL x)) Own.no,AV.int IntKind.i64 (0:Int)]
 [AV.ptr ((0:Nat)) ((0:Nat)),AV.sl ((3:Nat)) (lbsL (srtU x.labels)) Own.no,
 AV.sl ((3:Nat)) (lbsL (smpL x)) Own.no,AV.int IntKind.i64 (↑y:Int)] ∧
 StIs
 { boxes:=[some [AV.str x.entity,AV.sl ((1:Nat)) (strsL x.feats) Own.no,AV.sl ((3:Nat)) (lbsL x.labels) Own.no,AV.int IntKind.i64 x.seed,AV.int IntKind.i64 x.permille],some [AV.str (pmR x (1000:Int)).entity,AV.sl ((1:Nat)) (strsL (pmR x (1000:Int)).feats) Own.no,AV.sl ((3:Nat)) (lbsL (pmR x (1000:Int)).labels) Own.no,AV.int IntKind.i64 (pmR x (1000:Int)).seed,AV.int IntKind.i64 (pmR x (1000:Int)).permille],some [AV.str (pmR x (0:Int)).entity,AV.sl ((1:Nat)) (strsL (pmR x (0:Int)).feats) Own.no,AV.sl ((3:Nat)) (lbsL (pmR x (0:Int)).labels) Own.no,AV.int IntKind.i64 (pmR x (0:Int)).seed,AV.int IntKind.i64 (pmR x (0:Int)).permille],some [AV.str (pmR x q).entity,AV.sl ((1:Nat)) (strsL (pmR x q).feats) Own.no,AV.sl ((3:Nat)) (lbsL (pmR x q).labels) Own.no,AV.int IntKind.i64 (pmR x q).seed,AV.int IntKind.i64 (pmR x q).permille]],live:=[] }
 { boxes:=[some [AV.str x.entity,AV.sl ((1:Nat)) (strsL x.feats) Own.no,AV.sl ((3:Nat)) (lbsL x.labels) Own.no,AV.int IntKind.i64 x.seed,AV.int IntKind.i64 x.permille],some [AV.str (pmR x (1000:Int)).entity,AV.sl ((1:Nat)) (strsL (pmR x (1000:Int)).feats) Own.no,AV.sl ((3:Nat)) (lbsL (pmR x (1000:Int)).labels) Own.no,AV.int IntKind.i64 (pmR x (1000:Int)).seed,AV.int IntKind.i64 (pmR x (1000:Int)).permille],some [AV.str (pmR x (0:Int)).entity,AV.sl ((1:Nat)) (strsL (pmR x (0:Int)).feats) Own.no,AV.sl ((3:Nat)) (lbsL (pmR x (0:Int)).labels) Own.no,AV.int IntKind.i64 (pmR x (0:Int)).seed,AV.int IntKind.i64 (pmR x (0:Int)).permille],some [AV.str (pmR x q).entity,AV.sl ((1:Nat)) (strsL (pmR x q).feats) Own.no,AV.sl ((3:Nat)) (lbsL (pmR x q).labels) Own.no,AV.int IntKind.i64 (pmR x q).seed,AV.int IntKind.i64 (pmR x q).permille]],live:=[] } ∧
 y≤(srtU x.labels).length∧True) ∧
 ∀ (x_3:Nat),
 x_3≤(srtU x.labels).length →
 (decide ((↑x_3:Int) < (↑(lbsL (srtU x.labels)).length:Int)) = true →
 ((0:Int)≤(↑x_3:Int)∧(↑x_3:Int) < (↑(lbsL (srtU x.labels)).length:Int)) ∧
 ∃ (s:List UInt8),
 takeAt PQ ((9:Nat)) (lbsL (srtU x.labels)) (↑x_3:Int).toNat ((0:Nat)) = some (AV.str s) ∧
 ∃ (es:List AV),
 CallIs
 (tbl
 [((10:Nat),s10),((21:Nat),s21),((23:Nat),s23),((22:Nat),s22),
 ((24:Nat),s24),((26:Nat),laxS s26),((25:Nat),laxS s25),
 ((27:Nat),s27),((16:Nat),sTrue)]
 ((26:Nat)) [AV.sl ((0:Nat)) [] Own.nil,AV.str s])
 (AV.sl ((1:Nat)) es Own.no) [] ∧
 ((0:Int)≤(↑x_3:Int)∧(↑x_3:Int) < (↑(lbsL (srtU x.labels)).length:Int)) ∧
 ∃ (n:Int),
 takeAt PQ ((3:Nat)) (lbsL (srtU x.labels)) (↑x_3:Int).toNat ((1:Nat)) =
 some (AV.int IntKind.i64 n) ∧
 ∃ (es_5:List AV),
 CallIs
 (tbl
 [((10:Nat),s10),((21:Nat),s21),((23:Nat),s23),((22:Nat),s22),
 ((24:Nat),s24),((26:Nat),laxS s26),((25:Nat),laxS s25),
 ((27:Nat),s27),((16:Nat),sTrue)]
 ((25:Nat)) [AV.sl ((1:Nat)) es Own.no,AV.int IntKind.i64 n])
 (AV.sl ((1:Nat)) es_5 Own.no) [] ∧
 ((0:Int)≤(↑x_3:Int) ∧
 (↑x_3:Int) < (↑(lbsL (srtU x.labels)).length:Int)) ∧
 ∃ (n:Int),
 takeAt PQ ((3:Nat)) (lbsL (srtU x.labels)) (↑x_3:Int).toNat
 ((2:Nat)) =
 some (AV.int IntKind.i64 n) ∧
 ∃ (es:List AV),
 CallIs
 (tbl
 [((10:Nat),s10),((21:Nat),s21),((23:Nat),s23),
 ((22:Nat),s22),((24:Nat),s24),((26:Nat),laxS s26),
 ((25:Nat),laxS s25),((27:Nat),s27),((16:Nat),sTrue)]
 ((25:Nat))
 [AV.sl ((1:Nat)) es_5 Own.no,AV.int IntKind.i64 n])
 (AV.sl ((1:Nat)) es Own.no) [] ∧
 ((0:Int)≤(↑x_3:Int) ∧
 (↑x_3:Int) < (↑(lbsL (srtU x.labels)).length:Int)) ∧
 ∃ (s:List UInt8),
 ∃ (n:Int),
 ∃ (n_1:Int),
 takeAt PQ ((65:Nat)) (lbsL (srtU x.labels))
 (↑x_3:Int).toNat ((0:Nat)) =
 some
 (AV.agg
 [AV.str s,AV.int IntKind.i64 n,
 AV.int IntKind.i64 n_1]) ∧
 ∃ (b:Bool),
 CallIs
 (tbl
 [((10:Nat),s10),((21:Nat),s21),
 ((23:Nat),s23),((22:Nat),s22),
 ((24:Nat),s24),((26:Nat),laxS s26),
 ((25:Nat),laxS s25),((27:Nat),s27),
 ((16:Nat),sTrue)]
 ((24:Nat))
 [AV.sl ((3:Nat)) (lbsL (smpL x)) Own.no,
 AV.agg
 [AV.str s,AV.int IntKind.i64 n,
 AV.int IntKind.i64 n_1]])
 (AV.bool b) [] ∧
 (b = true →
 ∃ (b:Bool),
 CallIs
 (tbl
 [((10:Nat),s10),((21:Nat),s21),
 ((23:Nat),s23),((22:Nat),s22),
 ((24:Nat),s24),((26:Nat),laxS s26),
 ((25:Nat),laxS s25),((27:Nat),s27),
 ((16:Nat),sTrue)]
 ((27:Nat))
 [AV.int IntKind.i64 x.seed,
 AV.sl ((1:Nat)) es Own.no,
 AV.int IntKind.i64 x.permille])
 (AV.bool b) [] ∧
 (b = true →
 (false = true →
 RetIs (AV.bool false) [] (r,[])) ∧
 (false = false →
 ∃ (y:Nat),
 ValsAre
 [AV.ptr ((0:Nat)) ((0:Nat)),
 AV.sl ((3:Nat))
 (lbsL (srtU x.labels)) Own.no,
 AV.sl ((3:Nat))
 (lbsL (smpL x)) Own.no,
 AV.int IntKind.i64
 (IntKind.i64.wrap
 ((↑x_3:Int) + (1:Int)))]
 [AV.ptr ((0:Nat)) ((0:Nat)),
 AV.sl ((3:Nat))
 (lbsL (srtU x.labels)) Own.no,
 AV.sl ((3:Nat))
 (lbsL (smpL x)) Own.no,
 AV.int IntKind.i64 (↑y:Int)] ∧
 StIs
 { boxes:=[some [AV.str x.entity,AV.sl ((1:Nat)) (strsL x.feats) Own.no,AV.sl ((3:Nat)) (lbsL x.labels) Own.no,AV.int IntKind.i64 x.seed,AV.int IntKind.i64 x.permille],some [AV.str (pmR x (1000:Int)).entity,AV.sl ((1:Nat)) (strsL (pmR x (1000:Int)).feats) Own.no,AV.sl ((3:Nat)) (lbsL (pmR x (1000:Int)).labels) Own.no,AV.int IntKind.i64 (pmR x (1000:Int)).seed,AV.int IntKind.i64 (pmR x (1000:Int)).permille],some [AV.str (pmR x (0:Int)).entity,AV.sl ((1:Nat)) (strsL (pmR x (0:Int)).feats) Own.no,AV.sl ((3:Nat)) (lbsL (pmR x (0:Int)).labels) Own.no,AV.int IntKind.i64 (pmR x (0:Int)).seed,AV.int IntKind.i64 (pmR x (0:Int)).permille],some [AV.str (pmR x q).entity,AV.sl ((1:Nat)) (strsL (pmR x q).feats) Own.no,AV.sl ((3:Nat)) (lbsL (pmR x q).labels) Own.no,AV.int IntKind.i64 (pmR x q).seed,AV.int IntKind.i64 (pmR x q).permille]],live:=[] }
 { boxes:=[some [AV.str x.entity,AV.sl ((1:Nat)) (strsL x.feats) Own.no,AV.sl ((3:Nat)) (lbsL x.labels) Own.no,AV.int IntKind.i64 x.seed,AV.int IntKind.i64 x.permille],some [AV.str (pmR x (1000:Int)).entity,AV.sl ((1:Nat)) (strsL (pmR x (1000:Int)).feats) Own.no,AV.sl ((3:Nat)) (lbsL (pmR x (1000:Int)).labels) Own.no,AV.int IntKind.i64 (pmR x (1000:Int)).seed,AV.int IntKind.i64 (pmR x (1000:Int)).permille],some [AV.str (pmR x (0:Int)).entity,AV.sl ((1:Nat)) (strsL (pmR x (0:Int)).feats) Own.no,AV.sl ((3:Nat)) (lbsL (pmR x (0:Int)).labels) Own.no,AV.int IntKind.i64 (pmR x (0:Int)).seed,AV.int IntKind.i64 (pmR x (0:Int)).permille],some [AV.str (pmR x q).entity,AV.sl ((1:Nat)) (strsL (pmR x q).feats) Own.no,AV.sl ((3:Nat)) (lbsL (pmR x q).labels) Own.no,AV.int IntKind.i64 (pmR x q).seed,AV.int IntKind.i64 (pmR x q).permille]],live:=[] } ∧
 y≤(srtU x.labels).length ∧
 (srtU x.labels).length - y <
 (srtU x.labels).length -
 x_3)) ∧
 (b = false →
 (true = true →
 RetIs (AV.bool false) [] (r,[])) ∧
 (true = false →
 ∃ (y:Nat),
 ValsAre
 [AV.ptr ((0:Nat)) ((0:Nat)),
 AV.sl ((3:Nat))
 (lbsL (srtU x.labels)) Own.no,
 AV.sl ((3:Nat))
 (lbsL (smpL x)) Own.no,
 AV.int IntKind.i64
 (IntKind.i64.wrap
 ((↑x_3:Int) + (1:Int)))]
 [AV.ptr ((0:Nat)) ((0:Nat)),
 AV.sl ((3:Nat))
 (lbsL (srtU x.labels)) Own.no,
 AV.sl ((3:Nat))
 (lbsL (smpL x)) Own.no,
 AV.int IntKind.i64 (↑y:Int)] ∧
 StIs
 { boxes:=[some [AV.str x.entity,AV.sl ((1:Nat)) (strsL x.feats) Own.no,AV.sl ((3:Nat)) (lbsL x.labels) Own.no,AV.int IntKind.i64 x.seed,AV.int IntKind.i64 x.permille],some [AV.str (pmR x (1000:Int)).entity,AV.sl ((1:Nat)) (strsL (pmR x (1000:Int)).feats) Own.no,AV.sl ((3:Nat)) (lbsL (pmR x (1000:Int)).labels) Own.no,AV.int IntKind.i64 (pmR x (1000:Int)).seed,AV.int IntKind.i64 (pmR x (1000:Int)).permille],some [AV.str (pmR x (0:Int)).entity,AV.sl ((1:Nat)) (strsL (pmR x (0:Int)).feats) Own.no,AV.sl ((3:Nat)) (lbsL (pmR x (0:Int)).labels) Own.no,AV.int IntKind.i64 (pmR x (0:Int)).seed,AV.int IntKind.i64 (pmR x (0:Int)).permille],some [AV.str (pmR x q).entity,AV.sl ((1:Nat)) (strsL (pmR x q).feats) Own.no,AV.sl ((3:Nat)) (lbsL (pmR x q).labels) Own.no,AV.int IntKind.i64 (pmR x q).seed,AV.int IntKind.i64 (pmR x q).permille]],live:=[] }
 { boxes:=[some [AV.str x.entity,AV.sl ((1:Nat)) (strsL x.feats) Own.no,AV.sl ((3:Nat)) (lbsL x.labels) Own.no,AV.int IntKind.i64 x.seed,AV.int IntKind.i64 x.permille],some [AV.str (pmR x (1000:Int)).entity,AV.sl ((1:Nat)) (strsL (pmR x (1000:Int)).feats) Own.no,AV.sl ((3:Nat)) (lbsL (pmR x (1000:Int)).labels) Own.no,AV.int IntKind.i64 (pmR x (1000:Int)).seed,AV.int IntKind.i64 (pmR x (1000:Int)).permille],some [AV.str (pmR x (0:Int)).entity,AV.sl ((1:Nat)) (strsL (pmR x (0:Int)).feats) Own.no,AV.sl ((3:Nat)) (lbsL (pmR x (0:Int)).labels) Own.no,AV.int IntKind.i64 (pmR x (0:Int)).seed,AV.int IntKind.i64 (pmR x (0:Int)).permille],some [AV.str (pmR x q).entity,AV.sl ((1:Nat)) (strsL (pmR x q).feats) Own.no,AV.sl ((3:Nat)) (lbsL (pmR x q).labels) Own.no,AV.int IntKind.i64 (pmR x q).seed,AV.int IntKind.i64 (pmR x q).permille]],live:=[] } ∧
 y≤(srtU x.labels).length ∧
 (srtU x.labels).length - y <
 (srtU x.labels).length -
 x_3))) ∧
 (b = false →
 ∃ (b:Bool),
 CallIs
 (tbl
 [((10:Nat),s10),((21:Nat),s21),
 ((23:Nat),s23),((22:Nat),s22),
 ((24:Nat),s24),((26:Nat),laxS s26),
 ((25:Nat),laxS s25),((27:Nat),s27),
 ((16:Nat),sTrue)]
 ((27:Nat))
 [AV.int IntKind.i64 x.seed,
 AV.sl ((1:Nat)) es Own.no,
 AV.int IntKind.i64 x.permille])
 (AV.bool b) [] ∧
 (b = true →
 (true = true →
 RetIs (AV.bool false) [] (r,[])) ∧
 (true = false →
 ∃ (y:Nat),
 ValsAre
 [AV.ptr ((0:Nat)) ((0:Nat)),
 AV.sl ((3:Nat))
 (lbsL (srtU x.labels)) Own.no,
 AV.sl ((3:Nat))
 (lbsL (smpL x)) Own.no,
 AV.int IntKind.i64
 (IntKind.i64.wrap
 ((↑x_3:Int) + (1:Int)))]
 [AV.ptr ((0:Nat)) ((0:Nat)),
 AV.sl ((3:Nat))
 (lbsL (srtU x.labels)) Own.no,
 AV.sl ((3:Nat))
 (lbsL (smpL x)) Own.no,
 AV.int IntKind.i64 (↑y:Int)] ∧
 StIs
 { boxes:=[some [AV.str x.entity,AV.sl ((1:Nat)) (strsL x.feats) Own.no,AV.sl ((3:Nat)) (lbsL x.labels) Own.no,AV.int IntKind.i64 x.seed,AV.int IntKind.i64 x.permille],some [AV.str (pmR x (1000:Int)).entity,AV.sl ((1:Nat)) (strsL (pmR x (1000:Int)).feats) Own.no,AV.sl ((3:Nat)) (lbsL (pmR x (1000:Int)).labels) Own.no,AV.int IntKind.i64 (pmR x (1000:Int)).seed,AV.int IntKind.i64 (pmR x (1000:Int)).permille],some [AV.str (pmR x (0:Int)).entity,AV.sl ((1:Nat)) (strsL (pmR x (0:Int)).feats) Own.no,AV.sl ((3:Nat)) (lbsL (pmR x (0:Int)).labels) Own.no,AV.int IntKind.i64 (pmR x (0:Int)).seed,AV.int IntKind.i64 (pmR x (0:Int)).permille],some [AV.str (pmR x q).entity,AV.sl ((1:Nat)) (strsL (pmR x q).feats) Own.no,AV.sl ((3:Nat)) (lbsL (pmR x q).labels) Own.no,AV.int IntKind.i64 (pmR x q).seed,AV.int IntKind.i64 (pmR x q).permille]],live:=[] }
 { boxes:=[some [AV.str x.entity,AV.sl ((1:Nat)) (strsL x.feats) Own.no,AV.sl ((3:Nat)) (lbsL x.labels) Own.no,AV.int IntKind.i64 x.seed,AV.int IntKind.i64 x.permille],some [AV.str (pmR x (1000:Int)).entity,AV.sl ((1:Nat)) (strsL (pmR x (1000:Int)).feats) Own.no,AV.sl ((3:Nat)) (lbsL (pmR x (1000:Int)).labels) Own.no,AV.int IntKind.i64 (pmR x (1000:Int)).seed,AV.int IntKind.i64 (pmR x (1000:Int)).permille],some [AV.str (pmR x (0:Int)).entity,AV.sl ((1:Nat)) (strsL (pmR x (0:Int)).feats) Own.no,AV.sl ((3:Nat)) (lbsL (pmR x (0:Int)).labels) Own.no,AV.int IntKind.i64 (pmR x (0:Int)).seed,AV.int IntKind.i64 (pmR x (0:Int)).permille],some [AV.str (pmR x q).entity,AV.sl ((1:Nat)) (strsL (pmR x q).feats) Own.no,AV.sl ((3:Nat)) (lbsL (pmR x q).labels) Own.no,AV.int IntKind.i64 (pmR x q).seed,AV.int IntKind.i64 (pmR x q).permille]],live:=[] } ∧
 y≤(srtU x.labels).length ∧
 (srtU x.labels).length - y <
 (srtU x.labels).length -
 x_3)) ∧
 (b = false →
 (false = true →
 RetIs (AV.bool false) [] (r,[])) ∧
 (false = false →
 ∃ (y:Nat),
 ValsAre
 [AV.ptr ((0:Nat)) ((0:Nat)),
 AV.sl ((3:Nat))
 (lbsL (srtU x.labels)) Own.no,
 AV.sl ((3:Nat))
 (lbsL (smpL x)) Own.no,
 AV.int IntKind.i64
 (IntKind.i64.wrap
 ((↑x_3:Int) + (1:Int)))]
 [AV.ptr ((0:Nat)) ((0:Nat)),
 AV.sl ((3:Nat))
 (lbsL (srtU x.labels)) Own.no,
 AV.sl ((3:Nat))
 (lbsL (smpL x)) Own.no,
 AV.int IntKind.i64 (↑y:Int)] ∧
 StIs
 { boxes:=[some [AV.str x.entity,AV.sl ((1:Nat)) (strsL x.feats) Own.no,AV.sl ((3:Nat)) (lbsL x.labels) Own.no,AV.int IntKind.i64 x.seed,AV.int IntKind.i64 x.permille],some [AV.str (pmR x (1000:Int)).entity,AV.sl ((1:Nat)) (strsL (pmR x (1000:Int)).feats) Own.no,AV.sl ((3:Nat)) (lbsL (pmR x (1000:Int)).labels) Own.no,AV.int IntKind.i64 (pmR x (1000:Int)).seed,AV.int IntKind.i64 (pmR x (1000:Int)).permille],some [AV.str (pmR x (0:Int)).entity,AV.sl ((1:Nat)) (strsL (pmR x (0:Int)).feats) Own.no,AV.sl ((3:Nat)) (lbsL (pmR x (0:Int)).labels) Own.no,AV.int IntKind.i64 (pmR x (0:Int)).seed,AV.int IntKind.i64 (pmR x (0:Int)).permille],some [AV.str (pmR x q).entity,AV.sl ((1:Nat)) (strsL (pmR x q).feats) Own.no,AV.sl ((3:Nat)) (lbsL (pmR x q).labels) Own.no,AV.int IntKind.i64 (pmR x q).seed,AV.int IntKind.i64 (pmR x q).permille]],live:=[] }
 { boxes:=[some [AV.str x.entity,AV.sl ((1:Nat)) (strsL x.feats) Own.no,AV.sl ((3:Nat)) (lbsL x.labels) Own.no,AV.int IntKind.i64 x.seed,AV.int IntKind.i64 x.permille],some [AV.str (pmR x (1000:Int)).entity,AV.sl ((1:Nat)) (strsL (pmR x (1000:Int)).feats) Own.no,AV.sl ((3:Nat)) (lbsL (pmR x (1000:Int)).labels) Own.no,AV.int IntKind.i64 (pmR x (1000:Int)).seed,AV.int IntKind.i64 (pmR x (1000:Int)).permille],some [AV.str (pmR x (0:Int)).entity,AV.sl ((1:Nat)) (strsL (pmR x (0:Int)).feats) Own.no,AV.sl ((3:Nat)) (lbsL (pmR x (0:Int)).labels) Own.no,AV.int IntKind.i64 (pmR x (0:Int)).seed,AV.int IntKind.i64 (pmR x (0:Int)).permille],some [AV.str (pmR x q).entity,AV.sl ((1:Nat)) (strsL (pmR x q).feats) Own.no,AV.sl ((3:Nat)) (lbsL (pmR x q).labels) Own.no,AV.int IntKind.i64 (pmR x q).seed,AV.int IntKind.i64 (pmR x q).permille]],live:=[] } ∧
 y≤(srtU x.labels).length ∧
 (srtU x.labels).length - y <
 (srtU x.labels).length -
 x_3)))) ∧
 (decide ((↑x_3:Int) < (↑(lbsL (srtU x.labels)).length:Int)) = false →
 ∃ (b:Bool),
 CallIs (some (AV.bool true,[])) (AV.bool b) [] ∧
 (b = true→RetIs (AV.bool true) [] (r,[])) ∧
 (b = false→RetIs (AV.bool false) [] (r,[])))))) ∧
 (b = false→RetIs (AV.bool false) [] (r,[]))):=by kernel_rfl
structure Tk where
 k:Int
 s:List UInt8
 a:Int
deriving DecidableEq
instance : Inhabited Tk := ⟨⟨0, [], 0⟩⟩
def tkA (t:Tk):AV:=.agg [.int .i64 t.k,.str t.s,.int .i64 t.a]
abbrev toksL (l:List Tk):List AV:=l.map tkA
def unTk:AV→Option Tk
 | .agg [.int .i64 k,.str s,.int .i64 a]=>some ⟨k,s,a⟩
 | _=>none
theorem unTk_ok (x:Tk):unTk (tkA x) = some x:=rfl
def hdT:List AV→Tk
 | a :: _=>(unTk a).getD default
 | []=>default
def wrongV (a c:Int):Value:=.iface 88 (.agg #[.int .i64 a,.int .i64 c])
def numV (s:List UInt8):Int:=if valL s≤9223372036854775807 then valL s else 1099511627777
/-! the plain parser: a syntax error is told by its place -/
def thn {α β:Type} (x:Except Int α) (f:α→Except Int β):Except Int β:=
 match x with
 | .ok a=>f a
 | .error e=>.error e
def everyB (_:List UInt8):Bool:=true
def nx (k:Int) (acc:List UInt8→Bool):List Tk→Except Int (List UInt8 × List Tk)
 | []=>.error 0
 | t :: l=>if t.k = k∧acc t.s = true then .ok (t.s,if k = 6 then t :: l else l) else .error t.a
def num (ts:List Tk):Except Int (Int × List Tk):=thn (nx 2 everyB ts) fun x=>.ok (numV x.1,x.2)
def isCm:List Tk→Bool
 | t :: _=>decide (t.k = 5) && (t.s == [44])
 | []=>false
def isAtB:List Tk→Bool
 | t :: _=>decide (t.k = 1) && (t.s == [97,116])
 | []=>false
def lab (ts:List Tk):Except Int (Lb × List Tk):=thn (nx 4 everyB ts) fun x=>thn (num x.2) fun y=>thn (num y.2) fun z=>.ok (⟨x.1,y.1,z.1⟩,z.2)
def moreF:List Tk→List (List UInt8)→Except Int (List (List UInt8) × List Tk)
 | t :: u :: l,fs=>if isCm [t] then (if u.k = 1∧nameR u.s = true then moreF l (fs ++ [u.s]) else .error u.a) else .ok (fs,t :: u :: l)
 | l,fs=>.ok (fs,l)
def moreL:List Tk→List Lb→Except Int (List Lb × List Tk)
 | t :: a :: b :: c :: l,ls=>if isCm [t] then (if a.k = 4 then (if b.k = 2 then (if c.k = 2 then moreL l (ls ++ [⟨a.s,numV b.s,numV c.s⟩]) else .error c.a) else .error b.a) else .error a.a) else .ok (ls,t :: a :: b :: c :: l)
 | [t,a,b],ls=>if isCm [t] then (if a.k = 4 then .error b.a else .error a.a) else .ok (ls,[t,a,b])
 | [t,a],ls=>if isCm [t] then .error a.a else .ok (ls,[t,a])
 | l,ls=>.ok (ls,l)
def k21 (r:Rq) (ts:List Tk):Except Int Rq:=thn (nx 6 everyB ts) fun _=>.ok r
def kMl (r:Rq) (ts:List Tk) (ls:List Lb):Except Int Rq:=thn (moreL ts ls) fun x=>k21 { r with labels:=x.1 } x.2
def k20 (r:Rq) (ts:List Tk):Except Int Rq:=thn (lab ts) fun x=>kMl r x.2 [x.1]
def k18 (r:Rq) (ts:List Tk):Except Int Rq:=if isAtB ts then k20 r ts.tail else k21 r ts
def k17 (r:Rq) (ts:List Tk):Except Int Rq:=thn (num ts) fun x=>k18 { r with permille:=x.1 } x.2
def k16 (r:Rq) (ts:List Tk):Except Int Rq:=thn (nx 1 (· == [107,101,101,112]) ts) fun x=>k17 r x.2
def k15 (r:Rq) (ts:List Tk):Except Int Rq:=thn (num ts) fun x=>k16 { r with seed:=x.1 } x.2
def k14 (r:Rq) (ts:List Tk):Except Int Rq:=thn (nx 1 (· == [115,101,101,100]) ts) fun x=>k15 r x.2
def kMf (r:Rq) (ts:List Tk) (fs:List (List UInt8)):Except Int Rq:=thn (moreF ts fs) fun x=>k14 { r with feats:=x.1 } x.2
def k13 (r:Rq) (ts:List Tk):Except Int Rq:=thn (nx 1 nameR ts) fun x=>kMf r x.2 [x.1]
def k12 (r:Rq) (ts:List Tk):Except Int Rq:=thn (nx 1 (· == [116,97,107,101]) ts) fun x=>k13 r x.2
def k11 (ts:List Tk):Except Int Rq:=thn (nx 1 nameR ts) fun x=>k12 ⟨x.1,[],[],0,0⟩ x.2
def parseTk (ts:List Tk):Except Int Rq:=thn (nx 1 (· == [111,102]) ts) fun x=>k11 x.2
def zRq:Rq:=⟨[],[],[],0,0⟩
def resP (x:Except Int Rq):AV:=
 match x with
 | .error a=>.tup [rqA zRq,.int .i64 a,.int .i64 90]
 | .ok r=>if formB r then .tup [rqA r,.int .i64 0,.int .i64 0] else .tup [rqA zRq,.int .i64 0,.int .i64 240]
/-! specs of the scanner -/
def pS (b0 b1 b2 es:List AV) (lv:List (Nat × TypeId)):St:=⟨[some b0,some b1,some b2,some [.sl 3 es .no],some [.ptr 3 0]],lv⟩
def pS6 (b0 b1 b2 es:List AV) (b5:Option (List AV)) (lv:List (Nat × TypeId)):St:=⟨[some b0,some b1,some b2,some [.sl 3 es .no],some [.ptr 3 0],b5],lv⟩
def oOk (n:Nat):Option (List AV)→Prop
 | some l=>l.all (AV.p1 n) = true
 | none=>True
structure TokIn (es:List AV):Prop where
 out:∃ t l,es = toksL (t :: l)
def pOk (n:Nat) (l:List AV):Prop:=l.all (AV.p1 n) = true
def accS (g:FuncId) (w:List UInt8):List UInt8→Bool:=if g = 40 then nameR else if g = 87 then (fun s=>s == w) else everyB
def nextOuts (k:Int) (acc:List UInt8→Bool) (es:List AV) (mk:List AV→St):List POut:=
 [⟨(hdT es).k = k∧acc (hdT es).s = true,none,.str (hdT es).s,mk (if k = 6 then es else es.drop 1)⟩,⟨¬ ((hdT es).k = k∧acc (hdT es).s = true),some (wrongV (hdT es).a 90),.tup [],mk es⟩]
def s39:PSpec:=fun args S=>match args,S with
 | [.ptr 3 0,.int .i64 k,.fn g []],⟨[some b0,some b1,some b2,some [.sl 3 es .no],some [.ptr 3 0]],lv⟩ =>
  if g = 40∨g = 45 then some (TokIn es∧pOk 5 b0∧pOk 5 b1∧pOk 5 b2,nextOuts k (accS g []) es fun e=>pS b0 b1 b2 e lv) else none
 | [.ptr 3 0,.int .i64 k,.fn g []],⟨[some b0,some b1,some b2,some [.sl 3 es .no],some [.ptr 3 0],some b5],lv⟩ =>
  if g = 45 then some (TokIn es∧pOk 6 b0∧pOk 6 b1∧pOk 6 b2∧pOk 6 b5,nextOuts k everyB es fun e=>pS6 b0 b1 b2 e (some b5) lv) else none
 | [.ptr 3 0,.int .i64 k,.fn g []],⟨[some b0,some b1,some b2,some [.sl 3 es .no],some [.ptr 3 0],none],lv⟩ =>
  if g = 45 then some (TokIn es∧pOk 6 b0∧pOk 6 b1∧pOk 6 b2,nextOuts k everyB es fun e=>pS6 b0 b1 b2 e none lv) else none
 | [.ptr 3 0,.int .i64 k,.fn g [.ptr 5 0]],⟨[some b0,some b1,some b2,some [.sl 3 es .no],some [.ptr 3 0],some [.str w]],lv⟩ =>
  if g = 87 then some (TokIn es∧pOk 6 b0∧pOk 6 b1∧pOk 6 b2,nextOuts k (fun s=>s == w) es fun e=>pS6 b0 b1 b2 e (some [.str w]) lv) else none
 | _,_=>none
def s38:PSpec:=fun args S=>match args,S with
 | [.ptr 3 0,.str w],⟨[some b0,some b1,some b2,some [.sl 3 es .no],some [.ptr 3 0]],lv⟩ =>
  some (TokIn es∧(pOk 5 b0∧pOk 5 b1∧pOk 5 b2)∧pOk 6 b0∧pOk 6 b1∧pOk 6 b2,
   [⟨(hdT es).k = 1∧((hdT es).s == w) = true,none,.tup [],pS b0 b1 b2 (es.drop 1) lv⟩,⟨¬ ((hdT es).k = 1∧((hdT es).s == w) = true),some (wrongV (hdT es).a 90),.tup [],pS b0 b1 b2 es lv⟩])
 | _,_=>none
structure IntIn (es:List AV):Prop where
 out:(hdT es).k = 2→intB (hdT es).s = true∧(hdT es).s.length≤1000000
def numOuts (es:List AV) (mk:List AV→St):List POut:=
 [⟨(hdT es).k = 2,none,.int .i64 (numV (hdT es).s),mk (es.drop 1)⟩,⟨(hdT es).k ≠ 2,some (wrongV (hdT es).a 90),.tup [],mk es⟩]
def s43:PSpec:=fun args S=>match args,S with
 | [.ptr 3 0],⟨[some b0,some b1,some b2,some [.sl 3 es .no],some [.ptr 3 0]],lv⟩ =>
  some (TokIn es∧IntIn es∧pOk 5 b0∧pOk 5 b1∧pOk 5 b2,numOuts es fun e=>pS b0 b1 b2 e lv)
 | [.ptr 3 0],⟨[some b0,some b1,some b2,some [.sl 3 es .no],some [.ptr 3 0],some b5],lv⟩ =>
  some (TokIn es∧IntIn es∧pOk 6 b0∧pOk 6 b1∧pOk 6 b2∧pOk 6 b5,numOuts es fun e=>pS6 b0 b1 b2 e (some b5) lv)
 | _,_=>none
def s45:Spec:=fun args=>match args with
 | [.str _]=>some (.bool true,[])
 | _=>none
def XN:Shapes:=fun f=>match f with
 | 40 | 45 | 46 | 87=>some shB
 | 89=>some (.tup [.one (.int .i64),.one .err],none)
 | _=>none
def tN:List (FuncId × Spec):=[(40,s40u),(45,s45),(89,s89)]
def J0:InC:=fun _ _ _ _=>False
def fsN (f:FuncId):Bool:=f = 38 || f = 39 || f = 43 || f = 42 || f = 44 || f = 41
def fsW (f:FuncId):Bool:=f = 87
def cfW (_:FuncId) (_:List AV):PCfg:={ ps:=[],A:=nAn }
def g39:PCfg:={ ps:=[2,3],A:=nAn }
def g38:PCfg:={ ps:=[1],A:=nAn }
theorem w45 (m:Int) (s:List UInt8) (r:AV):(pureW PQ (GQ m) XN (tbl []) (itbl []) nAn [] 45 [.str s] (r,[])) =
(RetIs (AV.bool true) [] (r,[])):=by kernel_rfl
abbrev w39ac1 (b0:List AV) (b1:List AV) (b2:List AV) (t:Tk) (l:List Tk):List (Option (List AV)):=[some b0,some b1,some b2,some [AV.sl 3 (toksL (t :: l)) Own.no],some [AV.ptr 3 0]]
theorem w39a (m:Int) (k:Int) (t:Tk) (l:List Tk) (b0 b1 b2:List AV) (lv:List (Nat × TypeId)) (os:List POut):(pnW PQ idMk (GQ m) XN (tbl tN) (itbl []) fsN J0 g39 39 [.ptr 3 0,.int .i64 k,.fn 40 []] (pS b0 b1 b2 (toksL (t :: l)) lv) os) =
(((0:Int)≤(0:Int)∧(0:Int) < (↑(toksL (t :: l)).length:Int))∧∃ (n:Int),∃ (s:List UInt8),∃ (n_1:Int),some (AV.agg [I6 t.k,AV.str t.s,I6 t.a]) = some (AV.agg [I6 n,AV.str s,I6 n_1])∧((n != k) = true→PEnd (AV.p2 5 (AV.tup []) && boxesOk 5 (w39ac1 b0 b1 b2 t l)) (some (Value.iface 88 (Value.agg #[Value.int IntKind.i64 n_1,Value.int IntKind.i64 90]))) (AV.tup []) { boxes:=(w39ac1 b0 b1 b2 t l),live:=lv } os)∧((n != k) = false→∃ (b:Bool),CallIs (some (AV.bool (nameR s),[])) (AV.bool b) []∧(b = true→((n != (6:Int)) = true→(0:Int)≤(1:Int)∧((1:Nat)≤(toksL (t :: l)).length∧(toksL (t :: l)).length≤(toksL (t :: l)).length)∧((3:Nat) = (3:Nat)∨toksL (t :: l) = [])∧PEnd (AV.p2 5 (AV.str s) && boxesOk 5 [some b0,some b1,some b2,some [AV.sl 3 (List.drop 1 (List.take (toksL (t :: l)).length (toksL (t :: l)))) Own.no],some [AV.ptr 3 0]]) none (AV.str s) { boxes:=[some b0,some b1,some b2,some [AV.sl 3 (List.drop 1 (List.take (toksL (t :: l)).length (toksL (t :: l)))) Own.no],some [AV.ptr 3 0]],live:=lv } os)∧((n != (6:Int)) = false→PEnd (AV.p2 5 (AV.str s) && boxesOk 5 (w39ac1 b0 b1 b2 t l)) none (AV.str s) { boxes:=(w39ac1 b0 b1 b2 t l),live:=lv } os))∧(b = false→PEnd (AV.p2 5 (AV.tup []) && boxesOk 5 (w39ac1 b0 b1 b2 t l)) (some (Value.iface 88 (Value.agg #[Value.int IntKind.i64 n_1,Value.int IntKind.i64 90]))) (AV.tup []) { boxes:=(w39ac1 b0 b1 b2 t l),live:=lv } os))):=by kernel_rfl
abbrev w39bc1 (b0:List AV) (b1:List AV) (b2:List AV) (t:Tk) (l:List Tk):List (Option (List AV)):=[some b0,some b1,some b2,some [AV.sl 3 (toksL (t :: l)) Own.no],some [AV.ptr 3 0]]
theorem w39b (m:Int) (k:Int) (t:Tk) (l:List Tk) (b0 b1 b2:List AV) (lv:List (Nat × TypeId)) (os:List POut):(pnW PQ idMk (GQ m) XN (tbl tN) (itbl []) fsN J0 g39 39 [.ptr 3 0,.int .i64 k,.fn 45 []] (pS b0 b1 b2 (toksL (t :: l)) lv) os) =
(((0:Int)≤(0:Int)∧(0:Int) < (↑(toksL (t :: l)).length:Int))∧∃ (n:Int),∃ (s:List UInt8),∃ (n_1:Int),some (AV.agg [I6 t.k,AV.str t.s,I6 t.a]) = some (AV.agg [I6 n,AV.str s,I6 n_1])∧((n != k) = true→PEnd (AV.p2 5 (AV.tup []) && boxesOk 5 (w39bc1 b0 b1 b2 t l)) (some (Value.iface 88 (Value.agg #[Value.int IntKind.i64 n_1,Value.int IntKind.i64 90]))) (AV.tup []) { boxes:=(w39bc1 b0 b1 b2 t l),live:=lv } os)∧((n != k) = false→∃ (b:Bool),CallIs (some (AV.bool true,[])) (AV.bool b) []∧(b = true→((n != (6:Int)) = true→(0:Int)≤(1:Int)∧((1:Nat)≤(toksL (t :: l)).length∧(toksL (t :: l)).length≤(toksL (t :: l)).length)∧((3:Nat) = (3:Nat)∨toksL (t :: l) = [])∧PEnd (AV.p2 5 (AV.str s) && boxesOk 5 [some b0,some b1,some b2,some [AV.sl 3 (List.drop 1 (List.take (toksL (t :: l)).length (toksL (t :: l)))) Own.no],some [AV.ptr 3 0]]) none (AV.str s) { boxes:=[some b0,some b1,some b2,some [AV.sl 3 (List.drop 1 (List.take (toksL (t :: l)).length (toksL (t :: l)))) Own.no],some [AV.ptr 3 0]],live:=lv } os)∧((n != (6:Int)) = false→PEnd (AV.p2 5 (AV.str s) && boxesOk 5 (w39bc1 b0 b1 b2 t l)) none (AV.str s) { boxes:=(w39bc1 b0 b1 b2 t l),live:=lv } os))∧(b = false→PEnd (AV.p2 5 (AV.tup []) && boxesOk 5 (w39bc1 b0 b1 b2 t l)) (some (Value.iface 88 (Value.agg #[Value.int IntKind.i64 n_1,Value.int IntKind.i64 90]))) (AV.tup []) { boxes:=(w39bc1 b0 b1 b2 t l),live:=lv } os))):=by kernel_rfl
abbrev w39cc1 (b0:List AV) (b1:List AV) (b2:List AV) (t:Tk) (l:List Tk) (b5:List AV):List (Option (List AV)):=[some b0,some b1,some b2,some [AV.sl 3 (toksL (t :: l)) Own.no],some [AV.ptr 3 0],some b5]
theorem w39c (m:Int) (k:Int) (t:Tk) (l:List Tk) (b0 b1 b2 b5:List AV) (lv:List (Nat × TypeId)) (os:List POut):(pnW PQ idMk (GQ m) XN (tbl tN) (itbl []) fsN J0 g39 39 [.ptr 3 0,.int .i64 k,.fn 45 []] (pS6 b0 b1 b2 (toksL (t :: l)) (some b5) lv) os) =
(((0:Int)≤(0:Int)∧(0:Int) < (↑(toksL (t :: l)).length:Int))∧∃ (n:Int),∃ (s:List UInt8),∃ (n_1:Int),some (AV.agg [I6 t.k,AV.str t.s,I6 t.a]) = some (AV.agg [I6 n,AV.str s,I6 n_1])∧((n != k) = true→PEnd (AV.p2 6 (AV.tup []) && boxesOk 6 (w39cc1 b0 b1 b2 t l b5)) (some (Value.iface 88 (Value.agg #[Value.int IntKind.i64 n_1,Value.int IntKind.i64 90]))) (AV.tup []) { boxes:=(w39cc1 b0 b1 b2 t l b5),live:=lv } os)∧((n != k) = false→∃ (b:Bool),CallIs (some (AV.bool true,[])) (AV.bool b) []∧(b = true→((n != (6:Int)) = true→(0:Int)≤(1:Int)∧((1:Nat)≤(toksL (t :: l)).length∧(toksL (t :: l)).length≤(toksL (t :: l)).length)∧((3:Nat) = (3:Nat)∨toksL (t :: l) = [])∧PEnd (AV.p2 6 (AV.str s) && boxesOk 6 [some b0,some b1,some b2,some [AV.sl 3 (List.drop 1 (List.take (toksL (t :: l)).length (toksL (t :: l)))) Own.no],some [AV.ptr 3 0],some b5]) none (AV.str s) { boxes:=[some b0,some b1,some b2,some [AV.sl 3 (List.drop 1 (List.take (toksL (t :: l)).length (toksL (t :: l)))) Own.no],some [AV.ptr 3 0],some b5],live:=lv } os)∧((n != (6:Int)) = false→PEnd (AV.p2 6 (AV.str s) && boxesOk 6 (w39cc1 b0 b1 b2 t l b5)) none (AV.str s) { boxes:=(w39cc1 b0 b1 b2 t l b5),live:=lv } os))∧(b = false→PEnd (AV.p2 6 (AV.tup []) && boxesOk 6 (w39cc1 b0 b1 b2 t l b5)) (some (Value.iface 88 (Value.agg #[Value.int IntKind.i64 n_1,Value.int IntKind.i64 90]))) (AV.tup []) { boxes:=(w39cc1 b0 b1 b2 t l b5),live:=lv } os))):=by kernel_rfl
abbrev w39ec1 (b0:List AV) (b1:List AV) (b2:List AV) (t:Tk) (l:List Tk):List (Option (List AV)):=[some b0,some b1,some b2,some [AV.sl 3 (toksL (t :: l)) Own.no],some [AV.ptr 3 0],none]
theorem w39e (m:Int) (k:Int) (t:Tk) (l:List Tk) (b0 b1 b2:List AV) (lv:List (Nat × TypeId)) (os:List POut):(pnW PQ idMk (GQ m) XN (tbl tN) (itbl []) fsN J0 g39 39 [.ptr 3 0,.int .i64 k,.fn 45 []] (pS6 b0 b1 b2 (toksL (t :: l)) none lv) os) =
(((0:Int)≤(0:Int)∧(0:Int) < (↑(toksL (t :: l)).length:Int))∧∃ (n:Int),∃ (s:List UInt8),∃ (n_1:Int),some (AV.agg [I6 t.k,AV.str t.s,I6 t.a]) = some (AV.agg [I6 n,AV.str s,I6 n_1])∧((n != k) = true→PEnd (AV.p2 6 (AV.tup []) && boxesOk 6 (w39ec1 b0 b1 b2 t l)) (some (Value.iface 88 (Value.agg #[Value.int IntKind.i64 n_1,Value.int IntKind.i64 90]))) (AV.tup []) { boxes:=(w39ec1 b0 b1 b2 t l),live:=lv } os)∧((n != k) = false→∃ (b:Bool),CallIs (some (AV.bool true,[])) (AV.bool b) []∧(b = true→((n != (6:Int)) = true→(0:Int)≤(1:Int)∧((1:Nat)≤(toksL (t :: l)).length∧(toksL (t :: l)).length≤(toksL (t :: l)).length)∧((3:Nat) = (3:Nat)∨toksL (t :: l) = [])∧PEnd (AV.p2 6 (AV.str s) && boxesOk 6 [some b0,some b1,some b2,some [AV.sl 3 (List.drop 1 (List.take (toksL (t :: l)).length (toksL (t :: l)))) Own.no],some [AV.ptr 3 0],none]) none (AV.str s) { boxes:=[some b0,some b1,some b2,some [AV.sl 3 (List.drop 1 (List.take (toksL (t :: l)).length (toksL (t :: l)))) Own.no],some [AV.ptr 3 0],none],live:=lv } os)∧((n != (6:Int)) = false→PEnd (AV.p2 6 (AV.str s) && boxesOk 6 (w39ec1 b0 b1 b2 t l)) none (AV.str s) { boxes:=(w39ec1 b0 b1 b2 t l),live:=lv } os))∧(b = false→PEnd (AV.p2 6 (AV.tup []) && boxesOk 6 (w39ec1 b0 b1 b2 t l)) (some (Value.iface 88 (Value.agg #[Value.int IntKind.i64 n_1,Value.int IntKind.i64 90]))) (AV.tup []) { boxes:=(w39ec1 b0 b1 b2 t l),live:=lv } os))):=by kernel_rfl
abbrev w39dc1 (b0:List AV) (b1:List AV) (b2:List AV) (t:Tk) (l:List Tk) (w:List UInt8):List (Option (List AV)):=[some b0,some b1,some b2,some [AV.sl 3 (toksL (t :: l)) Own.no],some [AV.ptr 3 0],some [AV.str w]]
theorem w39d (m:Int) (k:Int) (w:List UInt8) (t:Tk) (l:List Tk) (b0 b1 b2:List AV) (lv:List (Nat × TypeId)) (os:List POut):(pnW PQ idMk (GQ m) XN (tbl tN) (itbl []) fsW (inW PQ idMk (GQ m) XN (tbl []) (itbl []) fsW cfW 1) g39 39 [.ptr 3 0,.int .i64 k,.fn 87 [.ptr 5 0]] (pS6 b0 b1 b2 (toksL (t :: l)) (some [.str w]) lv) os) =
(((0:Int)≤(0:Int)∧(0:Int) < (↑(toksL (t :: l)).length:Int))∧∃ (n:Int),∃ (s:List UInt8),∃ (n_1:Int),some (AV.agg [I6 t.k,AV.str t.s,I6 t.a]) = some (AV.agg [I6 n,AV.str s,I6 n_1])∧((n != k) = true→PEnd (AV.p2 6 (AV.tup []) && boxesOk 6 (w39dc1 b0 b1 b2 t l w)) (some (Value.iface 88 (Value.agg #[Value.int IntKind.i64 n_1,Value.int IntKind.i64 90]))) (AV.tup []) { boxes:=(w39dc1 b0 b1 b2 t l w),live:=lv } os)∧((n != k) = false→((s == w) = true→((n != (6:Int)) = true→(0:Int)≤(1:Int)∧((1:Nat)≤(toksL (t :: l)).length∧(toksL (t :: l)).length≤(toksL (t :: l)).length)∧((3:Nat) = (3:Nat)∨toksL (t :: l) = [])∧PEnd (AV.p2 6 (AV.str s) && boxesOk 6 [some b0,some b1,some b2,some [AV.sl 3 (List.drop 1 (List.take (toksL (t :: l)).length (toksL (t :: l)))) Own.no],some [AV.ptr 3 0],some [AV.str w]]) none (AV.str s) { boxes:=[some b0,some b1,some b2,some [AV.sl 3 (List.drop 1 (List.take (toksL (t :: l)).length (toksL (t :: l)))) Own.no],some [AV.ptr 3 0],some [AV.str w]],live:=lv } os)∧((n != (6:Int)) = false→PEnd (AV.p2 6 (AV.str s) && boxesOk 6 (w39dc1 b0 b1 b2 t l w)) none (AV.str s) { boxes:=(w39dc1 b0 b1 b2 t l w),live:=lv } os))∧((s == w) = false→PEnd (AV.p2 6 (AV.tup []) && boxesOk 6 (w39dc1 b0 b1 b2 t l w)) (some (Value.iface 88 (Value.agg #[Value.int IntKind.i64 n_1,Value.int IntKind.i64 90]))) (AV.tup []) { boxes:=(w39dc1 b0 b1 b2 t l w),live:=lv } os))):=by kernel_rfl
theorem w38 (m:Int) (w:List UInt8) (t:Tk) (l:List Tk) (b0 b1 b2:List AV) (lv:List (Nat × TypeId)) (os:List POut):(pnW PQ idMk (GQ m) XN (tbl tN) (itbl []) fsN (ptbl [(39,s39)] J0) g38 38 [.ptr 3 0,.str w] (pS b0 b1 b2 (toksL (t :: l)) lv) os) =
((TokIn (toksL (t :: l))∧b0.all (AV.p1 6) = true∧b1.all (AV.p1 6) = true∧b2.all (AV.p1 6) = true)∧((hdT (toksL (t :: l))).k = (1:Int)∧((hdT (toksL (t :: l))).s == w) = true→PEnd (AV.p2 5 (AV.tup []) && boxesOk 5 [some b0,some b1,some b2,some [AV.sl 3 (if (1:Int) = (6:Int) then toksL (t :: l) else List.drop 1 (toksL (t :: l))) Own.no],some [AV.ptr 3 0]]) none (AV.tup []) { boxes:=[some b0,some b1,some b2,some [AV.sl 3 (if (1:Int) = (6:Int) then toksL (t :: l) else List.drop 1 (toksL (t :: l))) Own.no],some [AV.ptr 3 0]],live:=lv } os)∧(((hdT (toksL (t :: l))).k = (1:Int)∧((hdT (toksL (t :: l))).s == w) = true→False)→PEnd (AV.p2 5 (AV.tup []) && boxesOk 5 [some b0,some b1,some b2,some [AV.sl 3 (toksL (t :: l)) Own.no],some [AV.ptr 3 0]]) (some (Value.iface 88 (Value.agg #[Value.int IntKind.i64 (hdT (toksL (t :: l))).a,Value.int IntKind.i64 90]))) (AV.tup []) { boxes:=[some b0,some b1,some b2,some [AV.sl 3 (toksL (t :: l)) Own.no],some [AV.ptr 3 0]],live:=lv } os)∧True):=by kernel_rfl
abbrev w43ac1 (b0:List AV) (b1:List AV) (b2:List AV) (t:Tk) (l:List Tk):List (Option (List AV)):=[some b0,some b1,some b2,some [AV.sl 3 (if (2:Int) = (6:Int) then toksL (t :: l) else List.drop 1 (toksL (t :: l))) Own.no],some [AV.ptr 3 0]]
abbrev w43ac2:=AV.int IntKind.i64 (1099511627777:Int)
theorem w43a (m:Int) (t:Tk) (l:List Tk) (b0 b1 b2:List AV) (lv:List (Nat × TypeId)) (os:List POut):(pnW PQ idMk (GQ m) XN (tbl tN) (itbl []) fsN (ptbl [(39,s39)] J0) g38 43 [.ptr 3 0] (pS b0 b1 b2 (toksL (t :: l)) lv) os) =
((TokIn (toksL (t :: l))∧b0.all (AV.p1 5) = true∧b1.all (AV.p1 5) = true∧b2.all (AV.p1 5) = true)∧((hdT (toksL (t :: l))).k = (2:Int)∧accS 45 [] (hdT (toksL (t :: l))).s = true→∃ (n:Int),CallIs (tbl [(40,s40u),(45,s45),(89,s89)] 89 [AV.str (hdT (toksL (t :: l))).s]) (AV.tup [I6 n,AV.ifc]) []∧(true = true→PEnd (AV.p2 5 w43ac2 && boxesOk 5 (w43ac1 b0 b1 b2 t l)) none w43ac2 { boxes:=(w43ac1 b0 b1 b2 t l),live:=lv } os)∧(true = false→PEnd (AV.p2 5 (I6 n) && boxesOk 5 (w43ac1 b0 b1 b2 t l)) none (I6 n) { boxes:=(w43ac1 b0 b1 b2 t l),live:=lv } os)∨CallIs (tbl [(40,s40u),(45,s45),(89,s89)] 89 [AV.str (hdT (toksL (t :: l))).s]) (AV.tup [I6 n,AV.lit Value.nilIface]) []∧(false = true→PEnd (AV.p2 5 w43ac2 && boxesOk 5 (w43ac1 b0 b1 b2 t l)) none w43ac2 { boxes:=(w43ac1 b0 b1 b2 t l),live:=lv } os)∧(false = false→PEnd (AV.p2 5 (I6 n) && boxesOk 5 (w43ac1 b0 b1 b2 t l)) none (I6 n) { boxes:=(w43ac1 b0 b1 b2 t l),live:=lv } os))∧(((hdT (toksL (t :: l))).k = (2:Int)∧accS 45 [] (hdT (toksL (t :: l))).s = true→False)→PEnd (AV.p2 5 (AV.tup []) && boxesOk 5 [some b0,some b1,some b2,some [AV.sl 3 (toksL (t :: l)) Own.no],some [AV.ptr 3 0]]) (some (Value.iface 88 (Value.agg #[Value.int IntKind.i64 (hdT (toksL (t :: l))).a,Value.int IntKind.i64 90]))) (AV.tup []) { boxes:=[some b0,some b1,some b2,some [AV.sl 3 (toksL (t :: l)) Own.no],some [AV.ptr 3 0]],live:=lv } os)∧True):=by kernel_rfl
abbrev w43bc1 (b0:List AV) (b1:List AV) (b2:List AV) (t:Tk) (l:List Tk) (b5:List AV):List (Option (List AV)):=[some b0,some b1,some b2,some [AV.sl 3 (if (2:Int) = (6:Int) then toksL (t :: l) else List.drop 1 (toksL (t :: l))) Own.no],some [AV.ptr 3 0],some b5]
abbrev w43bc2:=AV.int IntKind.i64 (1099511627777:Int)
theorem w43b (m:Int) (t:Tk) (l:List Tk) (b0 b1 b2 b5:List AV) (lv:List (Nat × TypeId)) (os:List POut):(pnW PQ idMk (GQ m) XN (tbl tN) (itbl []) fsN (ptbl [(39,s39)] J0) g38 43 [.ptr 3 0] (pS6 b0 b1 b2 (toksL (t :: l)) (some b5) lv) os) =
((TokIn (toksL (t :: l))∧b0.all (AV.p1 6) = true∧b1.all (AV.p1 6) = true∧b2.all (AV.p1 6) = true∧b5.all (AV.p1 6) = true)∧((hdT (toksL (t :: l))).k = (2:Int)∧everyB (hdT (toksL (t :: l))).s = true→∃ (n:Int),CallIs (tbl [(40,s40u),(45,s45),(89,s89)] 89 [AV.str (hdT (toksL (t :: l))).s]) (AV.tup [I6 n,AV.ifc]) []∧(true = true→PEnd (AV.p2 6 w43bc2 && boxesOk 6 (w43bc1 b0 b1 b2 t l b5)) none w43bc2 { boxes:=(w43bc1 b0 b1 b2 t l b5),live:=lv } os)∧(true = false→PEnd (AV.p2 6 (I6 n) && boxesOk 6 (w43bc1 b0 b1 b2 t l b5)) none (I6 n) { boxes:=(w43bc1 b0 b1 b2 t l b5),live:=lv } os)∨CallIs (tbl [(40,s40u),(45,s45),(89,s89)] 89 [AV.str (hdT (toksL (t :: l))).s]) (AV.tup [I6 n,AV.lit Value.nilIface]) []∧(false = true→PEnd (AV.p2 6 w43bc2 && boxesOk 6 (w43bc1 b0 b1 b2 t l b5)) none w43bc2 { boxes:=(w43bc1 b0 b1 b2 t l b5),live:=lv } os)∧(false = false→PEnd (AV.p2 6 (I6 n) && boxesOk 6 (w43bc1 b0 b1 b2 t l b5)) none (I6 n) { boxes:=(w43bc1 b0 b1 b2 t l b5),live:=lv } os))∧(((hdT (toksL (t :: l))).k = (2:Int)∧everyB (hdT (toksL (t :: l))).s = true→False)→PEnd (AV.p2 6 (AV.tup []) && boxesOk 6 [some b0,some b1,some b2,some [AV.sl 3 (toksL (t :: l)) Own.no],some [AV.ptr 3 0],some b5]) (some (Value.iface 88 (Value.agg #[Value.int IntKind.i64 (hdT (toksL (t :: l))).a,Value.int IntKind.i64 90]))) (AV.tup []) { boxes:=[some b0,some b1,some b2,some [AV.sl 3 (toksL (t :: l)) Own.no],some [AV.ptr 3 0],some b5],live:=lv } os)∧True):=by kernel_rfl
theorem bOk5 {b0 b1 b2 es:List AV} (h0:pOk 5 b0) (h1:pOk 5 b1) (h2:pOk 5 b2):boxesOk 5 [some b0,some b1,some b2,some [.sl 3 es .no],some [.ptr 3 0]] = true:=by
 unfold pOk at h0 h1 h2
 simp only [boxesOk,h0,h1,h2,Bool.or_true,Bool.true_and]
 rfl
theorem bOk6 {b0 b1 b2 es:List AV} {b5:Option (List AV)} (h0:pOk 6 b0) (h1:pOk 6 b1) (h2:pOk 6 b2) (h5:oOk 6 b5):boxesOk 6 [some b0,some b1,some b2,some [.sl 3 es .no],some [.ptr 3 0],b5] = true:=by
 unfold pOk at h0 h1 h2
 cases b5 with
 | none =>
  simp only [boxesOk,h0,h1,h2,Bool.or_true,Bool.true_and]
  rfl
 | some c =>
  have h5:c.all (AV.p1 6) = true:=h5
  simp only [boxesOk,h0,h1,h2,h5,Bool.or_true,Bool.true_and]
  rfl
theorem drop_tok (t:Tk) (l:List Tk):List.drop 1 (List.take (toksL (t :: l)).length (toksL (t :: l))) = toksL l:=by
 rw [List.take_length]; rfl
theorem p45 (m:Int) (s:List UInt8):PureOk PQ (GQ m) XN (tbl []) (itbl []) nAn [] 45 [.str s] (.bool true,[]):=by
 constructor
 rw [w45]
 exact ⟨rfl⟩
theorem o45 (m:Int):SpecOk PQ (GQ m) 45 s45:=spec_of (X:=XN) (m:=[]) mixedQ tbl_nil itbl_nil fun args r h=>by
 unfold s45 at h
 split at h
 case h_2=>cases h
 injection h with h; subst h
 exact ⟨_,p45 m _⟩
theorem tN_ok (m:Int):CalleeOk PQ (GQ m) (tbl tN):=tbl_cons (o40u m) (tbl_cons (o45 m) (tbl_cons (o89 m) tbl_nil))
theorem J0_ok {P:Program} {G:Glob} {fs:FuncId→Bool}:InOk P G fs J0:=fun _ _ _ _ _ h=>h.elim
theorem good_end {k:Int} {acc:List UInt8→Bool} {t:Tk} {l:List Tk} {mk:List AV→St} {ok:Bool} {S:St} (hok:ok = true) (hk:(t.k != k) = false) (ha:acc t.s = true) (hS:mk (if k = 6 then toksL (t :: l) else toksL l) = S):PEnd ok none (.str t.s) S (nextOuts k acc (toksL (t :: l)) mk):=
 ⟨hok,_,List.mem_cons_self,⟨by simpa [hdT,unTk_ok] using hk,ha⟩,rfl,rfl,hS⟩
theorem bad_end {k:Int} {acc:List UInt8→Bool} {t:Tk} {l:List Tk} {mk:List AV→St} {ok:Bool} {S:St} (hok:ok = true) (hk:(t.k != k) = true∨acc t.s = false) (hS:mk (toksL (t :: l)) = S):PEnd ok (some (wrongV t.a 90)) (.tup []) S (nextOuts k acc (toksL (t :: l)) mk):=
 have hn:¬ ((hdT (toksL (t :: l))).k = k∧acc (hdT (toksL (t :: l))).s = true):=fun hh=>by
  have h1:t.k = k:=hh.1
  have h2:acc t.s = true:=hh.2
  rcases hk with hk | hk
  ·simp [h1] at hk
  ·rw [h2] at hk; exact absurd hk (by simp)
 ⟨hok,_,List.mem_cons_of_mem _ List.mem_cons_self,hn,rfl,rfl,hS⟩
theorem len_tok (t:Tk) (l:List Tk):(0:Int) < ((toksL (t :: l)).length:Int):=by simp only [List.map_cons,List.length_cons]; omega
theorem len_tok1 (t:Tk) (l:List Tk):1≤(toksL (t :: l)).length:=by simp
theorem p39a (m:Int) (k:Int) (t:Tk) (l:List Tk) (b0 b1 b2:List AV) (lv:List (Nat × TypeId)) (h0:pOk 5 b0) (h1:pOk 5 b1) (h2:pOk 5 b2):PnOk PQ (GQ m) XN (tbl tN) (itbl []) fsN J0 g39 39 [.ptr 3 0,.int .i64 k,.fn 40 []] (pS b0 b1 b2 (toksL (t :: l)) lv) (nextOuts k nameR (toksL (t :: l)) fun e=>pS b0 b1 b2 e lv):=by
 constructor
 rw [w39a]; unfold w39ac1 I6
 have hb:∀ es,boxesOk 5 [some b0,some b1,some b2,some [.sl 3 es .no],some [.ptr 3 0]] = true:=fun es=>bOk5 h0 h1 h2
 refine ⟨⟨Int.le_refl _,len_tok t l⟩,_,_,_,rfl,fun c=>bad_end (by rw [hb]; rfl) (.inl c) rfl,fun c=>⟨_,⟨rfl⟩,fun d=>⟨fun e=>⟨by omega,⟨len_tok1 t l,Nat.le_refl _⟩,.inl rfl,good_end (by rw [hb]; rfl) c d ?_⟩,fun e=>good_end (by rw [hb]; rfl) c d ?_⟩,fun d=>bad_end (by rw [hb]; rfl) (.inr d) rfl⟩⟩
 ·have:k ≠ 6:=by rintro rfl; simp only [bne_iff_ne,ne_eq,bne_eq_false_iff_eq] at c e; exact e c
  rw [if_neg this,drop_tok]; rfl
 ·have:k = 6:=by simp only [bne_eq_false_iff_eq] at c e; rw [← c,e]
  rw [if_pos this]; rfl
theorem p39b (m:Int) (k:Int) (t:Tk) (l:List Tk) (b0 b1 b2:List AV) (lv:List (Nat × TypeId)) (h0:pOk 5 b0) (h1:pOk 5 b1) (h2:pOk 5 b2):PnOk PQ (GQ m) XN (tbl tN) (itbl []) fsN J0 g39 39 [.ptr 3 0,.int .i64 k,.fn 45 []] (pS b0 b1 b2 (toksL (t :: l)) lv) (nextOuts k everyB (toksL (t :: l)) fun e=>pS b0 b1 b2 e lv):=by
 constructor
 rw [w39b]; unfold w39bc1 I6
 have hb:∀ es,boxesOk 5 [some b0,some b1,some b2,some [.sl 3 es .no],some [.ptr 3 0]] = true:=fun es=>bOk5 h0 h1 h2
 refine ⟨⟨Int.le_refl _,len_tok t l⟩,_,_,_,rfl,fun c=>bad_end (by rw [hb]; rfl) (.inl c) rfl,fun c=>⟨_,⟨rfl⟩,fun d=>⟨fun e=>⟨by omega,⟨len_tok1 t l,Nat.le_refl _⟩,.inl rfl,good_end (by rw [hb]; rfl) c rfl ?_⟩,fun e=>good_end (by rw [hb]; rfl) c rfl ?_⟩,nofun⟩⟩
 ·have:k ≠ 6:=by rintro rfl; simp only [bne_iff_ne,ne_eq,bne_eq_false_iff_eq] at c e; exact e c
  rw [if_neg this,drop_tok]; rfl
 ·have:k = 6:=by simp only [bne_eq_false_iff_eq] at c e; rw [← c,e]
  rw [if_pos this]; rfl
theorem p39c (m:Int) (k:Int) (t:Tk) (l:List Tk) (b0 b1 b2 b5:List AV) (lv:List (Nat × TypeId)) (h0:pOk 6 b0) (h1:pOk 6 b1) (h2:pOk 6 b2) (h5:pOk 6 b5):PnOk PQ (GQ m) XN (tbl tN) (itbl []) fsN J0 g39 39 [.ptr 3 0,.int .i64 k,.fn 45 []] (pS6 b0 b1 b2 (toksL (t :: l)) (some b5) lv) (nextOuts k everyB (toksL (t :: l)) fun e=>pS6 b0 b1 b2 e (some b5) lv):=by
 constructor
 rw [w39c]; unfold w39cc1 I6
 have hb:∀ es,boxesOk 6 [some b0,some b1,some b2,some [.sl 3 es .no],some [.ptr 3 0],some b5] = true:=fun es=>bOk6 h0 h1 h2 h5
 refine ⟨⟨Int.le_refl _,len_tok t l⟩,_,_,_,rfl,fun c=>bad_end (by rw [hb]; rfl) (.inl c) rfl,fun c=>⟨_,⟨rfl⟩,fun d=>⟨fun e=>⟨by omega,⟨len_tok1 t l,Nat.le_refl _⟩,.inl rfl,good_end (by rw [hb]; rfl) c rfl ?_⟩,fun e=>good_end (by rw [hb]; rfl) c rfl ?_⟩,nofun⟩⟩
 ·have:k ≠ 6:=by rintro rfl; simp only [bne_iff_ne,ne_eq,bne_eq_false_iff_eq] at c e; exact e c
  rw [if_neg this,drop_tok]; rfl
 ·have:k = 6:=by simp only [bne_eq_false_iff_eq] at c e; rw [← c,e]
  rw [if_pos this]; rfl
theorem p39e (m:Int) (k:Int) (t:Tk) (l:List Tk) (b0 b1 b2:List AV) (lv:List (Nat × TypeId)) (h0:pOk 6 b0) (h1:pOk 6 b1) (h2:pOk 6 b2):PnOk PQ (GQ m) XN (tbl tN) (itbl []) fsN J0 g39 39 [.ptr 3 0,.int .i64 k,.fn 45 []] (pS6 b0 b1 b2 (toksL (t :: l)) none lv) (nextOuts k everyB (toksL (t :: l)) fun e=>pS6 b0 b1 b2 e none lv):=by
 constructor
 rw [w39e]; unfold w39ec1 I6
 have hb:∀ es,boxesOk 6 [some b0,some b1,some b2,some [.sl 3 es .no],some [.ptr 3 0],none] = true:=fun es=>bOk6 h0 h1 h2 trivial
 refine ⟨⟨Int.le_refl _,len_tok t l⟩,_,_,_,rfl,fun c=>bad_end (by rw [hb]; rfl) (.inl c) rfl,fun c=>⟨_,⟨rfl⟩,fun d=>⟨fun e=>⟨by omega,⟨len_tok1 t l,Nat.le_refl _⟩,.inl rfl,good_end (by rw [hb]; rfl) c rfl ?_⟩,fun e=>good_end (by rw [hb]; rfl) c rfl ?_⟩,nofun⟩⟩
 ·have:k ≠ 6:=by rintro rfl; simp only [bne_iff_ne,ne_eq,bne_eq_false_iff_eq] at c e; exact e c
  rw [if_neg this,drop_tok]; rfl
 ·have:k = 6:=by simp only [bne_eq_false_iff_eq] at c e; rw [← c,e]
  rw [if_pos this]; rfl
theorem p39d (m:Int) (k:Int) (w:List UInt8) (t:Tk) (l:List Tk) (b0 b1 b2:List AV) (lv:List (Nat × TypeId)) (h0:pOk 6 b0) (h1:pOk 6 b1) (h2:pOk 6 b2):PnOk PQ (GQ m) XN (tbl tN) (itbl []) fsW (inW PQ idMk (GQ m) XN (tbl []) (itbl []) fsW cfW 1) g39 39 [.ptr 3 0,.int .i64 k,.fn 87 [.ptr 5 0]] (pS6 b0 b1 b2 (toksL (t :: l)) (some [.str w]) lv) (nextOuts k (fun s=>s == w) (toksL (t :: l)) fun e=>pS6 b0 b1 b2 e (some [.str w]) lv):=by
 constructor
 rw [w39d]; unfold w39dc1 I6
 have hb:∀ es,boxesOk 6 [some b0,some b1,some b2,some [.sl 3 es .no],some [.ptr 3 0],some [.str w]] = true:=fun es=>bOk6 h0 h1 h2 rfl
 refine ⟨⟨Int.le_refl _,len_tok t l⟩,_,_,_,rfl,fun c=>bad_end (by rw [hb]; rfl) (.inl c) rfl,fun c=>⟨fun d=>⟨fun e=>⟨by omega,⟨len_tok1 t l,Nat.le_refl _⟩,.inl rfl,good_end (by rw [hb]; rfl) c d ?_⟩,fun e=>good_end (by rw [hb]; rfl) c d ?_⟩,fun d=>bad_end (by rw [hb]; rfl) (.inr d) rfl⟩⟩
 ·have:k ≠ 6:=by rintro rfl; simp only [bne_iff_ne,ne_eq,bne_eq_false_iff_eq] at c e; exact e c
  rw [if_neg this,drop_tok]; rfl
 ·have:k = 6:=by simp only [bne_eq_false_iff_eq] at c e; rw [← c,e]
  rw [if_pos this]; rfl
theorem o39 (m:Int):PSpecOk PQ (GQ m) 39 s39:=pspec_of mixedQ fun args S p os h hp=>by
 unfold s39 at h
 split at h
 case h_5=>cases h
 case h_1 =>
  split at h
  case isFalse=>cases h
  rename_i hg
  injection h with h
  injection h with e1 e2
  subst e1; subst e2
  obtain ⟨⟨t,l,rfl⟩,h0,h1,h2⟩:=hp
  rcases hg with rfl | rfl
  ·exact ⟨_,_,_,_,_,_,tN_ok m,itbl_nil,J0_ok,p39a m _ t l _ _ _ _ h0 h1 h2⟩
  ·exact ⟨_,_,_,_,_,_,tN_ok m,itbl_nil,J0_ok,p39b m _ t l _ _ _ _ h0 h1 h2⟩
 case h_2 =>
  split at h
  case isFalse=>cases h
  rename_i hg
  subst hg
  injection h with h
  injection h with e1 e2
  subst e1; subst e2
  obtain ⟨⟨t,l,rfl⟩,h0,h1,h2,h5⟩:=hp
  exact ⟨_,_,_,_,_,_,tN_ok m,itbl_nil,J0_ok,p39c m _ t l _ _ _ _ _ h0 h1 h2 h5⟩
 case h_3 =>
  split at h
  case isFalse=>cases h
  rename_i hg
  subst hg
  injection h with h
  injection h with e1 e2
  subst e1; subst e2
  obtain ⟨⟨t,l,rfl⟩,h0,h1,h2⟩:=hp
  exact ⟨_,_,_,_,_,_,tN_ok m,itbl_nil,J0_ok,p39e m _ t l _ _ _ _ h0 h1 h2⟩
 case h_4 =>
  split at h
  case isFalse=>cases h
  rename_i hg
  subst hg
  injection h with h
  injection h with e1 e2
  subst e1; subst e2
  obtain ⟨⟨t,l,rfl⟩,h0,h1,h2⟩:=hp
  exact ⟨_,_,_,_,_,_,tN_ok m,itbl_nil,inW_ok mixedQ tbl_nil itbl_nil 1,p39d m _ _ t l _ _ _ _ h0 h1 h2⟩
theorem p38 (m:Int) (w:List UInt8) (t:Tk) (l:List Tk) (b0 b1 b2:List AV) (lv:List (Nat × TypeId)) (h0:pOk 5 b0) (h1:pOk 5 b1) (h2:pOk 5 b2) (g0:pOk 6 b0) (g1:pOk 6 b1) (g2:pOk 6 b2):PnOk PQ (GQ m) XN (tbl tN) (itbl []) fsN (ptbl [(39,s39)] J0) g38 38 [.ptr 3 0,.str w] (pS b0 b1 b2 (toksL (t :: l)) lv)
  [⟨t.k = 1∧(t.s == w) = true,none,.tup [],pS b0 b1 b2 (toksL l) lv⟩,⟨¬ (t.k = 1∧(t.s == w) = true),some (wrongV t.a 90),.tup [],pS b0 b1 b2 (toksL (t :: l)) lv⟩]:=by
 constructor
 rw [w38]
 have hb:∀ es,boxesOk 5 [some b0,some b1,some b2,some [.sl 3 es .no],some [.ptr 3 0]] = true:=fun es=>bOk5 h0 h1 h2
 refine ⟨⟨⟨t,l,rfl⟩,g0,g1,g2⟩,fun h=>⟨by rw [hb]; rfl,_,List.mem_cons_self,h,rfl,rfl,rfl⟩,fun h=>⟨by rw [hb]; rfl,_,List.mem_cons_of_mem _ List.mem_cons_self,h,rfl,rfl,rfl⟩,trivial⟩
theorem o38 (m:Int):PSpecOk PQ (GQ m) 38 s38:=pspec_of mixedQ fun args S p os h hp=>by
 unfold s38 at h
 split at h
 case h_2=>cases h
 injection h with h
 injection h with e1 e2
 subst e1; subst e2
 obtain ⟨⟨t,l,rfl⟩,⟨h0,h1,h2⟩,g0,g1,g2⟩:=hp
 exact ⟨_,_,_,_,_,_,tN_ok m,itbl_nil,ptbl_cons (o39 m) (ptbl_nil J0_ok),p38 m _ t l _ _ _ _ h0 h1 h2 g0 g1 g2⟩
theorem num_ok {l:List UInt8} (h:intB l = true) (hl:l.length≤1000000):tbl tN 89 [.str l] = if valL l≤9223372036854775807 then some (.tup [.int .i64 (valL l),.lit .nilIface],[]) else some (.tup [.int .i64 9223372036854775807,.ifc],[]):=by
 show (if l.length≤1000000∧intB l = true then _ else _) = _
 rw [if_pos ⟨hl,h⟩]
 split <;> rfl
theorem p43a (m:Int) (t:Tk) (l:List Tk) (b0 b1 b2:List AV) (lv:List (Nat × TypeId)) (hi:IntIn (toksL (t :: l))) (h0:pOk 5 b0) (h1:pOk 5 b1) (h2:pOk 5 b2):PnOk PQ (GQ m) XN (tbl tN) (itbl []) fsN (ptbl [(39,s39)] J0) g38 43 [.ptr 3 0] (pS b0 b1 b2 (toksL (t :: l)) lv) (numOuts (toksL (t :: l)) fun e=>pS b0 b1 b2 e lv):=by
 constructor
 rw [w43a]; unfold w43ac2 w43ac1 I6
 have hb:∀ es,boxesOk 5 [some b0,some b1,some b2,some [.sl 3 es .no],some [.ptr 3 0]] = true:=fun es=>bOk5 h0 h1 h2
 refine ⟨⟨⟨t,l,rfl⟩,h0,h1,h2⟩,fun h=>?_,fun h=>⟨by rw [hb]; rfl,_,List.mem_cons_of_mem _ List.mem_cons_self,fun e=>h ⟨e,rfl⟩,rfl,rfl,rfl⟩,trivial⟩
 obtain ⟨a1,a2⟩:=hi.out h.1
 have hn:=num_ok a1 a2
 by_cases hv:valL t.s≤9223372036854775807
 ·refine ⟨valL t.s,.inr ⟨⟨hn.trans (if_pos hv)⟩,nofun,fun _=>⟨by rw [hb]; rfl,_,List.mem_cons_self,h.1,rfl,?_,rfl⟩⟩⟩
  show AV.int .i64 (numV t.s) = _
  rw [numV,if_pos hv]
 ·refine ⟨9223372036854775807,.inl ⟨⟨hn.trans (if_neg hv)⟩,fun _=>⟨by rw [hb]; rfl,_,List.mem_cons_self,h.1,rfl,?_,rfl⟩,nofun⟩⟩
  show AV.int .i64 (numV t.s) = _
  rw [numV,if_neg hv]
theorem p43b (m:Int) (t:Tk) (l:List Tk) (b0 b1 b2 b5:List AV) (lv:List (Nat × TypeId)) (hi:IntIn (toksL (t :: l))) (h0:pOk 6 b0) (h1:pOk 6 b1) (h2:pOk 6 b2) (h5:pOk 6 b5):PnOk PQ (GQ m) XN (tbl tN) (itbl []) fsN (ptbl [(39,s39)] J0) g38 43 [.ptr 3 0] (pS6 b0 b1 b2 (toksL (t :: l)) (some b5) lv) (numOuts (toksL (t :: l)) fun e=>pS6 b0 b1 b2 e (some b5) lv):=by
 constructor
 rw [w43b]; unfold w43bc2 w43bc1 I6
 have hb:∀ es,boxesOk 6 [some b0,some b1,some b2,some [.sl 3 es .no],some [.ptr 3 0],some b5] = true:=fun es=>bOk6 h0 h1 h2 h5
 refine ⟨⟨⟨t,l,rfl⟩,h0,h1,h2,h5⟩,fun h=>?_,fun h=>⟨by rw [hb]; rfl,_,List.mem_cons_of_mem _ List.mem_cons_self,fun e=>h ⟨e,rfl⟩,rfl,rfl,rfl⟩,trivial⟩
 obtain ⟨a1,a2⟩:=hi.out h.1
 have hn:=num_ok a1 a2
 by_cases hv:valL t.s≤9223372036854775807
 ·refine ⟨valL t.s,.inr ⟨⟨hn.trans (if_pos hv)⟩,nofun,fun _=>⟨by rw [hb]; rfl,_,List.mem_cons_self,h.1,rfl,?_,rfl⟩⟩⟩
  show AV.int .i64 (numV t.s) = _
  rw [numV,if_pos hv]
 ·refine ⟨9223372036854775807,.inl ⟨⟨hn.trans (if_neg hv)⟩,fun _=>⟨by rw [hb]; rfl,_,List.mem_cons_self,h.1,rfl,?_,rfl⟩,nofun⟩⟩
  show AV.int .i64 (numV t.s) = _
  rw [numV,if_neg hv]
theorem o43 (m:Int):PSpecOk PQ (GQ m) 43 s43:=pspec_of mixedQ fun args S p os h hp=>by
 unfold s43 at h
 split at h
 case h_3=>cases h
 case h_1 =>
  injection h with h
  injection h with e1 e2
  subst e1; subst e2
  obtain ⟨⟨t,l,rfl⟩,hi,h0,h1,h2⟩:=hp
  exact ⟨_,_,_,_,_,_,tN_ok m,itbl_nil,ptbl_cons (o39 m) (ptbl_nil J0_ok),p43a m t l _ _ _ _ hi h0 h1 h2⟩
 case h_2 =>
  injection h with h
  injection h with e1 e2
  subst e1; subst e2
  obtain ⟨⟨t,l,rfl⟩,hi,h0,h1,h2,h5⟩:=hp
  exact ⟨_,_,_,_,_,_,tN_ok m,itbl_nil,ptbl_cons (o39 m) (ptbl_nil J0_ok),p43b m t l _ _ _ _ _ hi h0 h1 h2 h5⟩
def s42:PSpec:=fun args S=>match args,S with
  | [.ptr 0 0,.ptr 4 0],⟨[some [.str en,.sl 1 fs (.tok 0),.sl 0 [] .nil,.int .i64 sd,.int .i64 pm],some b1,some b2,some [.sl 3 es .no],some [.ptr 3 0]],[(n,9)]⟩ =>
    some (TokIn es∧(∃ l,fs = strsL l)∧n = fs.length∧fs.length≤1000000∧pOk 5 b1∧pOk 5 b2,
      [⟨(hdT es).k = 1∧nameR (hdT es).s = true,none,.tup [],pS [.str en,.sl 1 (fs ++ [.str (hdT es).s]) (.tok 0),.sl 0 [] .nil,.int .i64 sd,.int .i64 pm] b1 b2 (es.drop 1) [(fs.length + 1,9)]⟩,
       ⟨¬ ((hdT es).k = 1∧nameR (hdT es).s = true),some (wrongV (hdT es).a 90),.tup [],pS [.str en,.sl 1 fs (.tok 0),.sl 0 [] .nil,.int .i64 sd,.int .i64 pm] b1 b2 es [(fs.length,9)]⟩])
  | _,_=>none
def s44:PSpec:=fun args S=>match args,S with
  | [.ptr 4 0,.ptr 0 0],⟨[some [.str en,.sl 1 fs (.tok 0),.sl 3 ls (.tok 1),.int .i64 sd,.int .i64 pm],some b1,some b2,some [.sl 3 es .no],some [.ptr 3 0]],[q,(n,65)]⟩ =>
    some (TokIn es∧((hdT es).k = 4→TokIn (es.drop 1)∧IntIn (es.drop 1))∧((hdT es).k = 4→(hdT (es.drop 1)).k = 2→TokIn (es.drop 2)∧IntIn (es.drop 2))∧(∃ l,ls = lbsL l)∧n = ls.length∧ls.length≤1000000∧(pOk 5 b1∧pOk 5 b2)∧pOk 6 b1∧pOk 6 b2,
      [⟨(hdT es).k = 4∧(hdT (es.drop 1)).k = 2∧(hdT (es.drop 2)).k = 2,none,.tup [],pS [.str en,.sl 1 fs (.tok 0),.sl 3 (ls ++ [.agg [.str (hdT es).s,.int .i64 (numV (hdT (es.drop 1)).s),.int .i64 (numV (hdT (es.drop 2)).s)]]) (.tok 1),.int .i64 sd,.int .i64 pm] b1 b2 (es.drop 3) [q,(ls.length + 1,65)]⟩,
       ⟨(hdT es).k ≠ 4,some (wrongV (hdT es).a 90),.tup [],pS [.str en,.sl 1 fs (.tok 0),.sl 3 ls (.tok 1),.int .i64 sd,.int .i64 pm] b1 b2 es [q,(ls.length,65)]⟩,
       ⟨(hdT es).k = 4∧(hdT (es.drop 1)).k ≠ 2,some (wrongV (hdT (es.drop 1)).a 90),.tup [],pS [.str en,.sl 1 fs (.tok 0),.sl 3 ls (.tok 1),.int .i64 sd,.int .i64 pm] b1 b2 (es.drop 1) [q,(ls.length,65)]⟩,
       ⟨(hdT es).k = 4∧(hdT (es.drop 1)).k = 2∧(hdT (es.drop 2)).k ≠ 2,some (wrongV (hdT (es.drop 2)).a 90),.tup [],pS [.str en,.sl 1 fs (.tok 0),.sl 3 ls (.tok 1),.int .i64 sd,.int .i64 pm] b1 b2 (es.drop 2) [q,(ls.length,65)]⟩])
  | _,_=>none
/-! Parse -/
structure Pb where
 a:Int
 c:Int
deriving DecidableEq
def pbA (p:Pb):AV:=.agg [.int .i64 p.a,.int .i64 p.c]
abbrev pbsL (l:List Pb):List AV:=l.map pbA
structure GoodT (ts:List Tk):Prop where
 ends:∃ l t,ts = l ++ [t]∧t.k = 6
 ints:∀ t ∈ ts,t.k = 2→intB t.s = true∧t.s.length≤1000000
 few:ts.length≤900000
def zR (a c:Int):AV:=.tup [rqA zRq,.int .i64 a,.int .i64 c]
def resT (ts:List Tk) (pb:List Pb) (e:Int):AV:=
 if e ≠ 0 then zR 0 e else
 match pb with
 | p :: _=>zR p.a p.c
 | []=>if ts = [] then zR 0 90 else resP (parseTk ts)
structure P2 where
 r:Rq
 ts:List Tk
def rqC (r:Rq) (fo:Own) (lsz:Nat) (lo:Own):List AV:=[.str r.entity,.sl 1 (strsL r.feats) fo,.sl lsz (lbsL r.labels) lo,.int .i64 r.seed,.int .i64 r.permille]
def rqN (r:Rq) (fo:Own):List AV:=[.str r.entity,.sl 1 (strsL r.feats) fo,.sl 0 [] .nil,.int .i64 r.seed,.int .i64 r.permille]
def b0n:List AV:=[.int .i64 0]
def pcut (b0:P2→List AV) (e:Int) (lv:P2→List (Nat × TypeId)) (I:P2→Prop) (mb:List (Nat × TypeId)) (kp:Option Nat):Option Ann:=
 some { α:=P2,slots:=[2,3,4,7],nb:=5,vals:=fun _=>[.ptr 0 0,.ptr 1 0,.ptr 2 0,.ptr 4 0],sS:=fun x=>pS (b0 x) b0n [.int .i64 e] (toksL x.ts) (lv x),I:=I,μ:=fun _=>0,mintB:=mb,keep:=kp }
def lv1 (x:P2):List (Nat × TypeId):=[(x.r.feats.length,9)]
def lv2 (x:P2):List (Nat × TypeId):=[(x.r.feats.length,9),(x.r.labels.length,65)]
def aP (ts:List Tk) (e:Int):Anns:=⟨fun k=>match k with
 | 1000012=>pcut (fun x=>[.str x.r.entity,.sl 0 [] .nil,.sl 0 [] .nil,.int .i64 0,.int .i64 0]) e (fun _=>[]) (fun x=>GoodT x.ts∧parseTk ts = k12 ⟨x.r.entity,[],[],0,0⟩ x.ts∧x.ts.length≤ts.length) [] none
 | 1000013=>pcut (fun x=>rqN x.r (.tok 0)) e lv1 (fun x=>GoodT x.ts∧parseTk ts = k13 x.r x.ts∧x.r.feats = []∧x.r.labels = []∧x.ts.length≤ts.length) [(1000,9)] none
 | 1000014=>pcut (fun x=>rqN x.r (.tok 0)) e lv1 (fun x=>GoodT x.ts∧parseTk ts = k14 x.r x.ts∧x.r.labels = []∧x.ts.length≤ts.length) [] none
 | 1000016=>pcut (fun x=>rqN x.r (.tok 0)) e lv1 (fun x=>GoodT x.ts∧parseTk ts = k16 x.r x.ts∧x.r.labels = []∧x.ts.length≤ts.length) [] none
 | 1000018=>pcut (fun x=>rqC x.r (.tok 0) 3 (.tok 1)) e lv2 (fun x=>GoodT x.ts∧parseTk ts = k18 x.r x.ts∧x.r.labels = []∧x.ts.length≤ts.length) [(2000,65)] none
 | 1000021=>pcut (fun x=>rqC x.r (.tok 0) 3 (.tok 1)) e lv2 (fun x=>GoodT x.ts∧parseTk ts = k21 x.r x.ts) [] none
 | _=>none,nA⟩
def aLF (ts:List Tk) (e:Int):Anns:=⟨fun k=>if k = 1 then some { α:=P2,slots:=[0,1],nb:=5,vals:=fun _=>[.ptr 3 0,.fn 42 [.ptr 0 0,.ptr 4 0]],sS:=fun x=>pS (rqN x.r (.tok 0)) b0n [.int .i64 e] (toksL x.ts) (lv1 x),I:=fun x=>GoodT x.ts∧parseTk ts = kMf x.r x.ts x.r.feats∧x.r.labels = []∧x.r.feats.length + x.ts.length≤ts.length,μ:=fun x=>x.ts.length } else none,nA⟩
def aLL (ts:List Tk) (e:Int):Anns:=⟨fun k=>if k = 1 then some { α:=P2,slots:=[0,1],nb:=5,vals:=fun _=>[.ptr 3 0,.fn 44 [.ptr 4 0,.ptr 0 0]],sS:=fun x=>pS (rqC x.r (.tok 0) 3 (.tok 1)) b0n [.int .i64 e] (toksL x.ts) (lv2 x),I:=fun x=>GoodT x.ts∧parseTk ts = kMl x.r x.ts x.r.labels∧x.r.labels.length + x.ts.length≤ts.length,μ:=fun x=>x.ts.length } else none,nA⟩
def cf41 (ts:List Tk) (e:Int) (args:List AV):PCfg:=
 match args with
 | [_,.fn 42 _]=>{ ps:=[0,3],A:=aLF ts e }
 | _=>{ ps:=[0,3],A:=aLL ts e }
def J1:InC:=ptbl [(39,s39),(38,s38),(43,s43),(42,s42),(44,s44)] J0
def s36v (ts:List Tk) (pb:List Pb) (e:Int):AV × List (Nat × TypeId):=(.tup [.sl 3 (toksL ts) .no,.sl 2 (pbsL pb) .no,.int .i64 e],[])
def XP (ts:List Tk) (pb:List Pb) (e:Int):Shapes:=fun f=>match f with
 | 36=>some (.tup [.one (.is (.sl 3 (toksL ts) .no)),.one (.is (.sl 2 (pbsL pb) .no)),.one (.is (.int .i64 e))],none)
 | 40 | 45 | 46 | 87=>some shB
 | _=>none
def gP (ts:List Tk) (e:Int):TCfg:={ ps:=[10,11,12,13,14,15,16,17,20,21,23],A:=aP ts e,dr:=8 }
abbrev JP (m:Int) (mk:Mk) (s:Spec) (ts:List Tk) (pb:List Pb) (e:Int):InC:=inlW PQ mk (GQ m) (XP ts pb e) (tbl [(36,s),(46,s46)]) (itbl []) fsN (cf41 ts e) 41 J1
abbrev w42c5 (en:List UInt8) (fs:List (List UInt8)) (t:Tk) (l:List Tk) (sd:Int) (pm:Int) (b1:List AV) (b2:List AV):List (Option (List AV)):=[some [AV.str en,AV.sl 1 (strsL fs ++ [AV.str (hdT (toksL (t :: l))).s]) (Own.tok 0),AV.sl 0 [] Own.nil,AV.int IntKind.i64 sd,AV.int IntKind.i64 pm],some b1,some b2,some [AV.sl 3 (if (1:Int) = (6:Int) then toksL (t :: l) else List.drop 1 (toksL (t :: l))) Own.no],some [AV.ptr 3 0]]
abbrev w42c1 (fs:List (List UInt8)) (en:List UInt8) (t:Tk) (l:List Tk) (sd:Int) (pm:Int) (b1:List AV) (b2:List AV) (os:List POut):Prop:=(((1:Nat) = (1:Nat)∨strsL fs = [])∧((strsL fs).length + (1:Nat)) * (17:Nat)≤(70368744177664:Nat)∧fs.length = (strsL fs).length∧(PEnd (AV.p2 5 (AV.tup []) && boxesOk 5 (w42c5 en fs t l sd pm b1 b2)) none (AV.tup []) { boxes:=(w42c5 en fs t l sd pm b1 b2),live:=[((strsL fs).length + (1:Nat),9)] } os∧True)∧True)∧True
abbrev w42c6 (en:List UInt8) (fs:List (List UInt8)) (sd:Int) (pm:Int):List AV:=[AV.str en,AV.sl 1 (strsL fs) (Own.tok 0),AV.sl 0 [] Own.nil,AV.int IntKind.i64 sd,AV.int IntKind.i64 pm]
abbrev w42c2 (t:Tk) (l:List Tk) (en:List UInt8) (fs:List (List UInt8)) (sd:Int) (pm:Int) (b1:List AV) (b2:List AV) (os:List POut):Prop:=((hdT (toksL (t :: l))).k = (1:Int)∧accS 40 [] (hdT (toksL (t :: l))).s = true→False)→PEnd (AV.p2 5 (AV.tup []) && boxesOk 5 [some (w42c6 en fs sd pm),some b1,some b2,some [AV.sl 3 (toksL (t :: l)) Own.no],some [AV.ptr 3 0]]) (some (Value.iface 88 (Value.agg #[Value.int IntKind.i64 (hdT (toksL (t :: l))).a,Value.int IntKind.i64 90]))) (AV.tup []) { boxes:=[some (w42c6 en fs sd pm),some b1,some b2,some [AV.sl 3 (toksL (t :: l)) Own.no],some [AV.ptr 3 0]],live:=[(fs.length,9)] } os
abbrev w42c3 (t:Tk) (l:List Tk) (en:List UInt8) (fs:List (List UInt8)) (sd:Int) (pm:Int) (b1:List AV) (b2:List AV):Prop:=TokIn (toksL (t :: l))∧(w42c6 en fs sd pm).all (AV.p1 5) = true∧b1.all (AV.p1 5) = true∧b2.all (AV.p1 5) = true
abbrev w42c4 (t:Tk) (l:List Tk) (en:List UInt8) (fs:List (List UInt8)) (sd:Int) (pm:Int) (b1:List AV) (b2:List AV) (os:List POut):Prop:=(((w42c3 t l en fs sd pm b1 b2)∧((hdT (toksL (t :: l))).k = (1:Int)∧accS 40 [] (hdT (toksL (t :: l))).s = true→(w42c1 fs en t l sd pm b1 b2 os)∧True)∧(w42c2 t l en fs sd pm b1 b2 os)∧True)∧True)∧((w42c3 t l en fs sd pm b1 b2)∧((hdT (toksL (t :: l))).k = (1:Int)∧accS 40 [] (hdT (toksL (t :: l))).s = true→((w42c1 fs en t l sd pm b1 b2 os)∧True)∧((w42c1 fs en t l sd pm b1 b2 os)∧True)∧True)∧(w42c2 t l en fs sd pm b1 b2 os)∧True)∧True
theorem w42 (m:Int) (t:Tk) (l:List Tk) (en:List UInt8) (fs:List (List UInt8)) (sd pm:Int) (b1 b2:List AV) (os:List POut):(pnW PQ idMk (GQ m) XN (tbl tN) (itbl []) fsN (ptbl [(39,s39)] J0) { ps:=[0],A:=nAn } 42 [.ptr 0 0,.ptr 4 0] (pS [.str en,.sl 1 (strsL fs) (.tok 0),.sl 0 [] .nil,.int .i64 sd,.int .i64 pm] b1 b2 (toksL (t :: l)) [(fs.length,9)]) os) =
((((((w42c3 t l en fs sd pm b1 b2)∧((hdT (toksL (t :: l))).k = (1:Int)∧accS 40 [] (hdT (toksL (t :: l))).s = true→(w42c1 fs en t l sd pm b1 b2 os)∧True)∧(w42c2 t l en fs sd pm b1 b2 os)∧True)∧True)∧True)∧(w42c4 t l en fs sd pm b1 b2 os)∧True)∧((w42c4 t l en fs sd pm b1 b2 os)∧((w42c3 t l en fs sd pm b1 b2)∧((hdT (toksL (t :: l))).k = (1:Int)∧accS 40 [] (hdT (toksL (t :: l))).s = true→(((w42c1 fs en t l sd pm b1 b2 os)∧True)∧((w42c1 fs en t l sd pm b1 b2 os)∧True)∧True)∧(((w42c1 fs en t l sd pm b1 b2 os)∧True)∧True)∧True)∧(w42c2 t l en fs sd pm b1 b2 os)∧True)∧True)∧True):=by kernel_rfl
abbrev w44c1 (t:Tk) (l:List Tk):=List.drop 1 (if (4:Int) = (6:Int) then toksL (t :: l) else List.drop 1 (toksL (t :: l)))
abbrev w44c2 (en:List UInt8) (fs:List AV) (ls:List Lb) (sd:Int) (pm:Int):List AV:=[AV.str en,AV.sl 1 fs (Own.tok 0),AV.sl 3 (lbsL ls) (Own.tok 1),AV.int IntKind.i64 sd,AV.int IntKind.i64 pm]
abbrev w44c3 (t:Tk) (l:List Tk):=hdT (if (4:Int) = (6:Int) then toksL (t :: l) else List.drop 1 (toksL (t :: l)))
abbrev w44c4 (en:List UInt8) (fs:List AV) (ls:List Lb) (t:Tk) (l:List Tk) (sd:Int) (pm:Int) (b1:List AV) (b2:List AV):List (Option (List AV)):=[some [AV.str en,AV.sl 1 fs (Own.tok 0),AV.sl 3 (lbsL ls ++ [AV.agg [AV.str (hdT (toksL (t :: l))).s,I6 (numV (w44c3 t l).s),I6 (numV (hdT (w44c1 t l)).s)]]) (Own.tok 1),I6 sd,I6 pm],some b1,some b2,some [AV.sl 3 (List.drop 1 (w44c1 t l)) Own.no],some [AV.ptr 3 0]]
theorem w44 (m:Int) (t:Tk) (l:List Tk) (en:List UInt8) (fs:List AV) (ls:List Lb) (sd pm:Int) (b1 b2:List AV) (q:Nat × TypeId) (os:List POut):(pnW PQ idMk (GQ m) XN (tbl tN) (itbl []) fsN (ptbl [(39,s39),(43,s43)] J0) { ps:=[0,1,2],A:=nAn } 44 [.ptr 4 0,.ptr 0 0] (pS [.str en,.sl 1 fs (.tok 0),.sl 3 (lbsL ls) (.tok 1),.int .i64 sd,.int .i64 pm] b1 b2 (toksL (t :: l)) [q,(ls.length,65)]) os) =
((TokIn (toksL (t :: l))∧(w44c2 en fs ls sd pm).all (AV.p1 6) = true∧b1.all (AV.p1 6) = true∧b2.all (AV.p1 6) = true)∧((hdT (toksL (t :: l))).k = (4:Int)∧everyB (hdT (toksL (t :: l))).s = true→(TokIn (if (4:Int) = (6:Int) then toksL (t :: l) else List.drop 1 (toksL (t :: l)))∧IntIn (if (4:Int) = (6:Int) then toksL (t :: l) else List.drop 1 (toksL (t :: l)))∧(w44c2 en fs ls sd pm).all (AV.p1 6) = true∧b1.all (AV.p1 6) = true∧b2.all (AV.p1 6) = true∧[AV.str (hdT (toksL (t :: l))).s,I6 0,I6 0].all (AV.p1 6) = true)∧((w44c3 t l).k = (2:Int)→(TokIn (w44c1 t l)∧IntIn (w44c1 t l)∧(w44c2 en fs ls sd pm).all (AV.p1 6) = true∧b1.all (AV.p1 6) = true∧b2.all (AV.p1 6) = true∧[AV.str (hdT (toksL (t :: l))).s,I6 (numV (w44c3 t l).s),I6 0].all (AV.p1 6) = true)∧((hdT (w44c1 t l)).k = (2:Int)→((3:Nat) = (3:Nat)∨lbsL ls = [])∧((lbsL ls).length + (1:Nat)) * (33:Nat)≤(70368744177664:Nat)∧ls.length = (lbsL ls).length∧PEnd (AV.p2 5 (AV.tup []) && boxesOk 5 (w44c4 en fs ls t l sd pm b1 b2)) none (AV.tup []) { boxes:=(w44c4 en fs ls t l sd pm b1 b2),live:=[q,((lbsL ls).length + (1:Nat),65)] } os)∧(((hdT (w44c1 t l)).k = (2:Int)→False)→PEnd (AV.p2 5 (AV.tup []) && boxesOk 5 [some (w44c2 en fs ls sd pm),some b1,some b2,some [AV.sl 3 (w44c1 t l) Own.no],some [AV.ptr 3 0]]) (some (Value.iface 88 (Value.agg #[Value.int IntKind.i64 (hdT (w44c1 t l)).a,Value.int IntKind.i64 90]))) (AV.tup []) { boxes:=[some (w44c2 en fs ls sd pm),some b1,some b2,some [AV.sl 3 (w44c1 t l) Own.no],some [AV.ptr 3 0]],live:=[q,(ls.length,65)] } os)∧True)∧(((w44c3 t l).k = (2:Int)→False)→PEnd (AV.p2 5 (AV.tup []) && boxesOk 5 [some (w44c2 en fs ls sd pm),some b1,some b2,some [AV.sl 3 (if (4:Int) = (6:Int) then toksL (t :: l) else List.drop 1 (toksL (t :: l))) Own.no],some [AV.ptr 3 0]]) (some (Value.iface 88 (Value.agg #[Value.int IntKind.i64 (w44c3 t l).a,Value.int IntKind.i64 90]))) (AV.tup []) { boxes:=[some (w44c2 en fs ls sd pm),some b1,some b2,some [AV.sl 3 (if (4:Int) = (6:Int) then toksL (t :: l) else List.drop 1 (toksL (t :: l))) Own.no],some [AV.ptr 3 0]],live:=[q,(ls.length,65)] } os)∧True)∧(((hdT (toksL (t :: l))).k = (4:Int)∧everyB (hdT (toksL (t :: l))).s = true→False)→PEnd (AV.p2 5 (AV.tup []) && boxesOk 5 [some (w44c2 en fs ls sd pm),some b1,some b2,some [AV.sl 3 (toksL (t :: l)) Own.no],some [AV.ptr 3 0]]) (some (Value.iface 88 (Value.agg #[Value.int IntKind.i64 (hdT (toksL (t :: l))).a,Value.int IntKind.i64 90]))) (AV.tup []) { boxes:=[some (w44c2 en fs ls sd pm),some b1,some b2,some [AV.sl 3 (toksL (t :: l)) Own.no],some [AV.ptr 3 0]],live:=[q,(ls.length,65)] } os)∧True):=by kernel_rfl
theorem p42 (m:Int) (t:Tk) (l:List Tk) (en:List UInt8) (fs:List (List UInt8)) (sd pm:Int) (b1 b2:List AV) (n:Nat) (hn0:n = fs.length) (hf:fs.length≤1000000) (h1:pOk 5 b1) (h2:pOk 5 b2):PnOk PQ (GQ m) XN (tbl tN) (itbl []) fsN (ptbl [(39,s39)] J0) { ps:=[0],A:=nAn } 42 [.ptr 0 0,.ptr 4 0] (pS [.str en,.sl 1 (strsL fs) (.tok 0),.sl 0 [] .nil,.int .i64 sd,.int .i64 pm] b1 b2 (toksL (t :: l)) [(n,9)])
    [⟨t.k = 1∧nameR t.s = true,none,.tup [],pS [.str en,.sl 1 (strsL fs ++ [.str t.s]) (.tok 0),.sl 0 [] .nil,.int .i64 sd,.int .i64 pm] b1 b2 (toksL l) [(n + 1,9)]⟩,
     ⟨¬ (t.k = 1∧nameR t.s = true),some (wrongV t.a 90),.tup [],pS [.str en,.sl 1 (strsL fs) (.tok 0),.sl 0 [] .nil,.int .i64 sd,.int .i64 pm] b1 b2 (toksL (t :: l)) [(n,9)]⟩]:=by
  subst hn0
  constructor
  rw [w42]; unfold w42c4 w42c3 w42c2 w42c6 w42c1 w42c5
  have hn:(strsL fs).length = fs.length:=List.length_map _
  have hb:∀ (es:List AV) (o:Own) (ts:List AV),boxesOk 5 [some [.str en,.sl 1 es o,.sl 0 [] .nil,.int .i64 sd,.int .i64 pm],some b1,some b2,some [.sl 3 ts .no],some [.ptr 3 0]] = true:=fun es o ts=>bOk5 rfl h1 h2
  have hT:TokIn (toksL (t :: l)):=⟨t,l,rfl⟩
  have hl:((strsL fs).length + 1) * 17≤70368744177664:=by rw [hn]; omega
  have b1':b1.all (AV.p1 5) = true:=h1
  have b2':b2.all (AV.p1 5) = true:=h2
  have hp:[AV.str en,.sl 1 (strsL fs) (.tok 0),.sl 0 [] .nil,.int .i64 sd,.int .i64 pm].all (AV.p1 5) = true:=rfl
  repeat' (first | exact trivial | exact hT | exact b1' | exact b2' | exact hp | exact hl | exact hn.symm | exact .inl rfl | refine And.intro ?_ ?_ | intro h)
  all_goals (first | exact ⟨by rw [hb]; rfl,_,List.mem_cons_self,h,rfl,rfl,by rw [hn]; rfl⟩ | exact ⟨by rw [hb]; rfl,_,List.mem_cons_of_mem _ List.mem_cons_self,h,rfl,rfl,rfl⟩)
theorem o42 (m:Int):PSpecOk PQ (GQ m) 42 s42:=pspec_of mixedQ fun args S p os h hp=>by
 unfold s42 at h
 split at h
 case h_2=>cases h
 injection h with h
 injection h with e1 e2
 subst e1; subst e2
 obtain ⟨⟨t,l,rfl⟩,⟨fs,rfl⟩,rfl,hf,h1,h2⟩:=hp
 have hn:(strsL fs).length = fs.length:=List.length_map _
 exact ⟨_,_,_,_,_,_,tN_ok m,itbl_nil,ptbl_cons (o39 m) (ptbl_nil J0_ok),p42 m t l _ fs _ _ _ _ _ hn (by rw [hn] at hf; exact hf) h1 h2⟩
theorem p44 (m:Int) (t:Tk) (l:List Tk) (en:List UInt8) (fs:List AV) (ls:List Lb) (sd pm:Int) (b1 b2:List AV) (q:Nat × TypeId) (n:Nat) (hn0:n = ls.length)
    (ht1:t.k = 4→TokIn (toksL l)∧IntIn (toksL l)) (ht2:t.k = 4→(hdT (toksL l)).k = 2→TokIn ((toksL l).drop 1)∧IntIn ((toksL l).drop 1)) (hf:ls.length≤1000000) (h1:pOk 5 b1) (h2:pOk 5 b2) (g1:pOk 6 b1) (g2:pOk 6 b2):PnOk PQ (GQ m) XN (tbl tN) (itbl []) fsN (ptbl [(39,s39),(43,s43)] J0) { ps:=[0,1,2],A:=nAn } 44 [.ptr 4 0,.ptr 0 0] (pS [.str en,.sl 1 fs (.tok 0),.sl 3 (lbsL ls) (.tok 1),.int .i64 sd,.int .i64 pm] b1 b2 (toksL (t :: l)) [q,(n,65)])
    [⟨t.k = 4∧(hdT (toksL l)).k = 2∧(hdT ((toksL l).drop 1)).k = 2,none,.tup [],pS [.str en,.sl 1 fs (.tok 0),.sl 3 (lbsL ls ++ [.agg [.str t.s,.int .i64 (numV (hdT (toksL l)).s),.int .i64 (numV (hdT ((toksL l).drop 1)).s)]]) (.tok 1),.int .i64 sd,.int .i64 pm] b1 b2 ((toksL l).drop 2) [q,(n + 1,65)]⟩,
     ⟨t.k ≠ 4,some (wrongV t.a 90),.tup [],pS [.str en,.sl 1 fs (.tok 0),.sl 3 (lbsL ls) (.tok 1),.int .i64 sd,.int .i64 pm] b1 b2 (toksL (t :: l)) [q,(n,65)]⟩,
     ⟨t.k = 4∧(hdT (toksL l)).k ≠ 2,some (wrongV (hdT (toksL l)).a 90),.tup [],pS [.str en,.sl 1 fs (.tok 0),.sl 3 (lbsL ls) (.tok 1),.int .i64 sd,.int .i64 pm] b1 b2 (toksL l) [q,(n,65)]⟩,
     ⟨t.k = 4∧(hdT (toksL l)).k = 2∧(hdT ((toksL l).drop 1)).k ≠ 2,some (wrongV (hdT ((toksL l).drop 1)).a 90),.tup [],pS [.str en,.sl 1 fs (.tok 0),.sl 3 (lbsL ls) (.tok 1),.int .i64 sd,.int .i64 pm] b1 b2 ((toksL l).drop 1) [q,(n,65)]⟩]:=by
  subst hn0
  constructor
  rw [w44]; unfold w44c4 w44c3 w44c2 w44c1 I6
  have hn:(lbsL ls).length = ls.length:=List.length_map _
  have hb:∀ (es:List AV) (o:Own) (ts:List AV),boxesOk 5 [some [.str en,.sl 1 fs (.tok 0),.sl 3 es o,.int .i64 sd,.int .i64 pm],some b1,some b2,some [.sl 3 ts .no],some [.ptr 3 0]] = true:=fun es o ts=>bOk5 rfl h1 h2
  have e6:∀ (a:List AV),(if (4:Int) = 6 then a else List.drop 1 (toksL (t :: l))) = toksL l:=fun a=>rfl
  have d2:List.drop 1 (List.drop 1 (toksL l)) = (toksL l).drop 2:=by rw [List.drop_drop]
  simp only [e6]
  refine ⟨⟨⟨t,l,rfl⟩,rfl,g1,g2⟩,fun c1=>⟨⟨(ht1 c1.1).1,(ht1 c1.1).2,rfl,g1,g2,rfl⟩,fun c2=>⟨⟨(ht2 c1.1 c2).1,(ht2 c1.1 c2).2,rfl,g1,g2,rfl⟩,fun c3=>⟨.inl trivial,by rw [hn]; omega,hn.symm,⟨by rw [hb]; rfl,_,List.mem_cons_self,⟨c1.1,c2,c3⟩,rfl,rfl,?_⟩⟩,fun c3=>⟨by rw [hb]; rfl,_,List.mem_cons_of_mem _ (List.mem_cons_of_mem _ (List.mem_cons_of_mem _ List.mem_cons_self)),⟨c1.1,c2,c3⟩,rfl,rfl,rfl⟩,trivial⟩,fun c2=>⟨by rw [hb]; rfl,_,List.mem_cons_of_mem _ (List.mem_cons_of_mem _ List.mem_cons_self),⟨c1.1,c2⟩,rfl,rfl,rfl⟩,trivial⟩,fun c1=>⟨by rw [hb]; rfl,_,List.mem_cons_of_mem _ List.mem_cons_self,fun e=>c1 ⟨e,rfl⟩,rfl,rfl,rfl⟩,trivial⟩
  rw [d2,hn]; rfl
theorem o44 (m:Int):PSpecOk PQ (GQ m) 44 s44:=pspec_of mixedQ fun args S p os h hp=>by
 unfold s44 at h
 split at h
 case h_2=>cases h
 injection h with h
 injection h with e1 e2
 subst e1; subst e2
 obtain ⟨⟨t,l,rfl⟩,ht1,ht2,⟨ls,rfl⟩,rfl,hf,⟨h1,h2⟩,g1,g2⟩:=hp
 have hn:(lbsL ls).length = ls.length:=List.length_map _
 exact ⟨_,_,_,_,_,_,tN_ok m,itbl_nil,ptbl_cons (o39 m) (ptbl_cons (o43 m) (ptbl_nil J0_ok)),p44 m t l _ _ ls _ _ _ _ _ _ hn ht1 ht2 (by rw [hn] at hf; exact hf) h1 h2 g1 g2⟩
theorem J1_ok (m:Int):InOk PQ (GQ m) fsN J1:=ptbl_cons (o39 m) (ptbl_cons (o38 m) (ptbl_cons (o43 m) (ptbl_cons (o42 m) (ptbl_cons (o44 m) (ptbl_nil J0_ok)))))
end Go.Abs
