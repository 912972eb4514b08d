/- Own texts, part 7. -/
import Derived.Test.YtpglogahncpnoaaGreatPart6

namespace Go.Abs
open Go.Proofs
theorem w47 (m:Int) (nm src fsrc tab key:List UInt8) (nx pn seq kind ref ev:Int) (ack:Bool) (l1 es fs:List AV) (f1 f5 f6:List UInt8) (f2 f3 f4 f7:Int) (f8:List AV):(openW PI (GI m) XK (tbl []) (itbl []) nAn [] 40 [.agg [.str f1,.int .i64 f2,.int .i64 f3,.int .i64 f4,.str f5,.str f6,.int .i64 f7,.sl 3 f8 .no],.ptr 1 0] ⟨[some (sdC nm nx 8 l1),some (pkD src ack pn fsrc seq kind ref tab key ev fs),some sdZ,some (ownC 8 es)],[]⟩ (.bool (decide (f2 < pn)),⟨[some (sdC nm nx 8 l1),some (pkD src ack pn fsrc seq kind ref tab key ev fs),some sdZ,some (ownC 8 es)],[]⟩)) =
((decide (f2 < pn) = true →
    RetOpen
      (AV.p2 (4:Nat) (AV.bool true) &&
        boxesOk (4:Nat)
 [some [AV.str nm,AV.int IntKind.i64 nx,AV.sl ((8:Nat)) l1 Own.no],
 some
 [AV.str src,AV.bool ack,AV.int IntKind.i64 pn,AV.str fsrc,AV.int IntKind.i64 seq,AV.int IntKind.i64 kind,AV.int IntKind.i64 ref,AV.str tab,
 AV.str key,AV.int IntKind.i64 ev,AV.sl ((3:Nat)) fs Own.no],
 some [AV.str [],AV.int IntKind.i64 (0:Int),AV.sl ((0:Nat)) [] Own.nil],some [AV.tup [AV.bool true,AV.sl ((8:Nat)) es Own.no]]])
      (AV.bool true)
      {
        boxes:=
 [some [AV.str nm,AV.int IntKind.i64 nx,AV.sl ((8:Nat)) l1 Own.no],
 some
 [AV.str src,AV.bool ack,AV.int IntKind.i64 pn,AV.str fsrc,AV.int IntKind.i64 seq,AV.int IntKind.i64 kind,AV.int IntKind.i64 ref,AV.str tab,
 AV.str key,AV.int IntKind.i64 ev,AV.sl ((3:Nat)) fs Own.no],
 some [AV.str [],AV.int IntKind.i64 (0:Int),AV.sl ((0:Nat)) [] Own.nil],some [AV.tup [AV.bool true,AV.sl ((8:Nat)) es Own.no]]],
        live:=[] }
      (AV.bool (decide (f2 < pn)),
        { boxes:=[some [AV.str nm,AV.int IntKind.i64 nx,AV.sl ((8:Nat)) l1 Own.no],some [AV.str src,AV.bool ack,AV.int IntKind.i64 pn,AV.str fsrc,AV.int IntKind.i64 seq,AV.int IntKind.i64 kind,AV.int IntKind.i64 ref,AV.str tab,AV.str key,AV.int IntKind.i64 ev,AV.sl ((3:Nat)) fs Own.no],some [AV.str [],AV.int IntKind.i64 (0:Int),AV.sl ((0:Nat)) [] Own.nil],some [AV.tup [AV.bool true,AV.sl ((8:Nat)) es Own.no]]],live:=[] })) ∧
  (decide (f2 < pn) = false →
    RetOpen
      (AV.p2 (4:Nat) (AV.bool false) &&
        boxesOk (4:Nat)
 [some [AV.str nm,AV.int IntKind.i64 nx,AV.sl ((8:Nat)) l1 Own.no],
 some
 [AV.str src,AV.bool ack,AV.int IntKind.i64 pn,AV.str fsrc,AV.int IntKind.i64 seq,AV.int IntKind.i64 kind,AV.int IntKind.i64 ref,AV.str tab,
 AV.str key,AV.int IntKind.i64 ev,AV.sl ((3:Nat)) fs Own.no],
 some [AV.str [],AV.int IntKind.i64 (0:Int),AV.sl ((0:Nat)) [] Own.nil],some [AV.tup [AV.bool true,AV.sl ((8:Nat)) es Own.no]]])
      (AV.bool false)
      {
        boxes:=
 [some [AV.str nm,AV.int IntKind.i64 nx,AV.sl ((8:Nat)) l1 Own.no],
 some
 [AV.str src,AV.bool ack,AV.int IntKind.i64 pn,AV.str fsrc,AV.int IntKind.i64 seq,AV.int IntKind.i64 kind,AV.int IntKind.i64 ref,AV.str tab,
 AV.str key,AV.int IntKind.i64 ev,AV.sl ((3:Nat)) fs Own.no],
 some [AV.str [],AV.int IntKind.i64 (0:Int),AV.sl ((0:Nat)) [] Own.nil],some [AV.tup [AV.bool true,AV.sl ((8:Nat)) es Own.no]]],
        live:=[] }
      (AV.bool (decide (f2 < pn)),
        { boxes:=[some [AV.str nm,AV.int IntKind.i64 nx,AV.sl ((8:Nat)) l1 Own.no],some [AV.str src,AV.bool ack,AV.int IntKind.i64 pn,AV.str fsrc,AV.int IntKind.i64 seq,AV.int IntKind.i64 kind,AV.int IntKind.i64 ref,AV.str tab,AV.str key,AV.int IntKind.i64 ev,AV.sl ((3:Nat)) fs Own.no],some [AV.str [],AV.int IntKind.i64 (0:Int),AV.sl ((0:Nat)) [] Own.nil],some [AV.tup [AV.bool true,AV.sl ((8:Nat)) es Own.no]]],live:=[] }))):=by kernel_rfl
theorem w47f (m:Int) (nm src fsrc tab key:List UInt8) (nx pn seq kind ref ev:Int) (ack:Bool) (l1 es fs:List AV) (f1 f5 f6:List UInt8) (f2 f3 f4 f7:Int) (f8:List AV) (g1 g5 g6:List UInt8) (g2 g3 g4 g7:Int) (g8:List AV):(openW PI (GI m) XK (tbl []) (itbl []) nAn [] 40 [.agg [.str f1,.int .i64 f2,.int .i64 f3,.int .i64 f4,.str f5,.str f6,.int .i64 f7,.sl 3 f8 .no],.ptr 1 0] ⟨[some (sdC nm nx 8 l1),some (pkD src ack pn fsrc seq kind ref tab key ev fs),some sdZ,some (ownC 8 es),some [.str g1,.int .i64 g2,.int .i64 g3,.int .i64 g4,.str g5,.str g6,.int .i64 g7,.sl 3 g8 .no]],[]⟩ (.bool (decide (f2 < pn)),⟨[some (sdC nm nx 8 l1),some (pkD src ack pn fsrc seq kind ref tab key ev fs),some sdZ,some (ownC 8 es),some [.str g1,.int .i64 g2,.int .i64 g3,.int .i64 g4,.str g5,.str g6,.int .i64 g7,.sl 3 g8 .no]],[]⟩)) =
((decide (f2 < pn) = true →
    RetOpen
      (AV.p2 (5:Nat) (AV.bool true) &&
        boxesOk (5:Nat)
 [some [AV.str nm,AV.int IntKind.i64 nx,AV.sl ((8:Nat)) l1 Own.no],
 some
 [AV.str src,AV.bool ack,AV.int IntKind.i64 pn,AV.str fsrc,AV.int IntKind.i64 seq,AV.int IntKind.i64 kind,AV.int IntKind.i64 ref,AV.str tab,
 AV.str key,AV.int IntKind.i64 ev,AV.sl ((3:Nat)) fs Own.no],
 some [AV.str [],AV.int IntKind.i64 (0:Int),AV.sl ((0:Nat)) [] Own.nil],some [AV.tup [AV.bool true,AV.sl ((8:Nat)) es Own.no]],
 some
 [AV.str g1,AV.int IntKind.i64 g2,AV.int IntKind.i64 g3,AV.int IntKind.i64 g4,AV.str g5,AV.str g6,AV.int IntKind.i64 g7,
 AV.sl ((3:Nat)) g8 Own.no]])
      (AV.bool true)
      {
        boxes:=
 [some [AV.str nm,AV.int IntKind.i64 nx,AV.sl ((8:Nat)) l1 Own.no],
 some
 [AV.str src,AV.bool ack,AV.int IntKind.i64 pn,AV.str fsrc,AV.int IntKind.i64 seq,AV.int IntKind.i64 kind,AV.int IntKind.i64 ref,AV.str tab,
 AV.str key,AV.int IntKind.i64 ev,AV.sl ((3:Nat)) fs Own.no],
 some [AV.str [],AV.int IntKind.i64 (0:Int),AV.sl ((0:Nat)) [] Own.nil],some [AV.tup [AV.bool true,AV.sl ((8:Nat)) es Own.no]],
 some
 [AV.str g1,AV.int IntKind.i64 g2,AV.int IntKind.i64 g3,AV.int IntKind.i64 g4,AV.str g5,AV.str g6,AV.int IntKind.i64 g7,
 AV.sl ((3 : Nat)) g8 Own.no]],
        live:=[] }
      (AV.bool (decide (f2 < pn)),
        { boxes:=[some [AV.str nm,AV.int IntKind.i64 nx,AV.sl ((8:Nat)) l1 Own.no],some [AV.str src,AV.bool ack,AV.int IntKind.i64 pn,AV.str fsrc,AV.int IntKind.i64 seq,AV.int IntKind.i64 kind,AV.int IntKind.i64 ref,AV.str tab,AV.str key,AV.int IntKind.i64 ev,AV.sl ((3:Nat)) fs Own.no],some [AV.str [],AV.int IntKind.i64 (0:Int),AV.sl ((0:Nat)) [] Own.nil],some [AV.tup [AV.bool true,AV.sl ((8:Nat)) es Own.no]],some [AV.str g1,AV.int IntKind.i64 g2,AV.int IntKind.i64 g3,AV.int IntKind.i64 g4,AV.str g5,AV.str g6,AV.int IntKind.i64 g7,AV.sl ((3:Nat)) g8 Own.no]],live:=[] })) ∧
  (decide (f2 < pn) = false →
    RetOpen
      (AV.p2 (5:Nat) (AV.bool false) &&
        boxesOk (5:Nat)
 [some [AV.str nm,AV.int IntKind.i64 nx,AV.sl ((8:Nat)) l1 Own.no],
 some
 [AV.str src,AV.bool ack,AV.int IntKind.i64 pn,AV.str fsrc,AV.int IntKind.i64 seq,AV.int IntKind.i64 kind,AV.int IntKind.i64 ref,AV.str tab,
 AV.str key,AV.int IntKind.i64 ev,AV.sl ((3:Nat)) fs Own.no],
 some [AV.str [],AV.int IntKind.i64 (0:Int),AV.sl ((0:Nat)) [] Own.nil],some [AV.tup [AV.bool true,AV.sl ((8:Nat)) es Own.no]],
 some
 [AV.str g1,AV.int IntKind.i64 g2,AV.int IntKind.i64 g3,AV.int IntKind.i64 g4,AV.str g5,AV.str g6,AV.int IntKind.i64 g7,
 AV.sl ((3:Nat)) g8 Own.no]])
      (AV.bool false)
      {
        boxes:=
 [some [AV.str nm,AV.int IntKind.i64 nx,AV.sl ((8:Nat)) l1 Own.no],
 some
 [AV.str src,AV.bool ack,AV.int IntKind.i64 pn,AV.str fsrc,AV.int IntKind.i64 seq,AV.int IntKind.i64 kind,AV.int IntKind.i64 ref,AV.str tab,
 AV.str key,AV.int IntKind.i64 ev,AV.sl ((3:Nat)) fs Own.no],
 some [AV.str [],AV.int IntKind.i64 (0:Int),AV.sl ((0:Nat)) [] Own.nil],some [AV.tup [AV.bool true,AV.sl ((8:Nat)) es Own.no]],
 some
 [AV.str g1,AV.int IntKind.i64 g2,AV.int IntKind.i64 g3,AV.int IntKind.i64 g4,AV.str g5,AV.str g6,AV.int IntKind.i64 g7,
 AV.sl ((3 : Nat)) g8 Own.no]],
        live:=[] }
      (AV.bool (decide (f2 < pn)),
        { boxes:=[some [AV.str nm,AV.int IntKind.i64 nx,AV.sl ((8:Nat)) l1 Own.no],some [AV.str src,AV.bool ack,AV.int IntKind.i64 pn,AV.str fsrc,AV.int IntKind.i64 seq,AV.int IntKind.i64 kind,AV.int IntKind.i64 ref,AV.str tab,AV.str key,AV.int IntKind.i64 ev,AV.sl ((3:Nat)) fs Own.no],some [AV.str [],AV.int IntKind.i64 (0:Int),AV.sl ((0:Nat)) [] Own.nil],some [AV.tup [AV.bool true,AV.sl ((8:Nat)) es Own.no]],some [AV.str g1,AV.int IntKind.i64 g2,AV.int IntKind.i64 g3,AV.int IntKind.i64 g4,AV.str g5,AV.str g6,AV.int IntKind.i64 g7,AV.sl ((3:Nat)) g8 Own.no]],live:=[] }))):=by kernel_rfl
theorem w62 (m:Int) (nm src fsrc tab key:List UInt8) (nx pn seq kind ref ev:Int) (ack:Bool) (l1 fs:List AV) (l:List FcI):(openW PI (GI m) XK (tbl []) (itbl [(40,s47)]) (a62 nm nx l1 (pkD src ack pn fsrc seq kind ref tab key ev fs) pn l) [] 62 [.ms 3 8 l.length,.fn 40 [.ptr 1 0]] (S4 nm nx l1 (pkD src ack pn fsrc seq kind ref tab key ev fs) l) (.int .i64 (keptIdx pn (fcsL l)),S4 nm nx l1 (pkD src ack pn fsrc seq kind ref tab key ev fs) l)) =
((∃ (y:Nat),
    ValsAre
        [AV.ms ((3:Nat)) ((8:Nat)) l.length,AV.fn ((40:Nat)) [AV.ptr ((1:Nat)) ((0:Nat))],AV.int IntKind.i64 (↑l.length:Int),
 AV.int IntKind.i64 (0:Int)]
        [AV.ms ((3:Nat)) ((8:Nat)) l.length,AV.fn ((40:Nat)) [AV.ptr ((1:Nat)) ((0:Nat))],AV.int IntKind.i64 (↑l.length:Int),
 AV.int IntKind.i64 (↑y:Int)] ∧
      StIs
 { boxes:=[some [AV.str nm,AV.int IntKind.i64 nx,AV.sl ((8:Nat)) l1 Own.no],some [AV.str src,AV.bool ack,AV.int IntKind.i64 pn,AV.str fsrc,AV.int IntKind.i64 seq,AV.int IntKind.i64 kind,AV.int IntKind.i64 ref,AV.str tab,AV.str key,AV.int IntKind.i64 ev,AV.sl ((3:Nat)) fs Own.no],some [AV.str [],AV.int IntKind.i64 (0:Int),AV.sl ((0:Nat)) [] Own.nil],some [AV.tup [AV.bool true,AV.sl ((8:Nat)) (fcsL l) Own.no]]],live:=[] }
 { boxes:=[some [AV.str nm,AV.int IntKind.i64 nx,AV.sl ((8:Nat)) l1 Own.no],some [AV.str src,AV.bool ack,AV.int IntKind.i64 pn,AV.str fsrc,AV.int IntKind.i64 seq,AV.int IntKind.i64 kind,AV.int IntKind.i64 ref,AV.str tab,AV.str key,AV.int IntKind.i64 ev,AV.sl ((3:Nat)) fs Own.no],some [AV.str [],AV.int IntKind.i64 (0:Int),AV.sl ((0:Nat)) [] Own.nil],some [AV.tup [AV.bool true,AV.sl ((8:Nat)) (fcsL l) Own.no]]],live:=[] } ∧
        (y≤l.length∧(List.take y l).all (keepF pn) = true)∧True) ∧
  ∀ (x:Nat),
    x≤l.length∧(List.take x l).all (keepF pn) = true →
      (decide ((↑x:Int) < (↑l.length:Int)) = true →
 ((0:Int)≤(↑x:Int)∧(↑x:Int) < (↑l.length:Int)) ∧
 ∃ (s:List UInt8),
 ∃ (n:Int),
 ∃ (n_1:Int),
 ∃ (n_2:Int),
 ∃ (s_1:List UInt8),
 ∃ (s_2:List UInt8),
 ∃ (n_3:Int),
 ∃ (es:List AV),
 takeAt PI ((29:Nat)) (fcsL l) (↑x:Int).toNat ((0:Nat)) =
 some
 (AV.agg
 [AV.str s,AV.int IntKind.i64 n,AV.int IntKind.i64 n_1,AV.int IntKind.i64 n_2,AV.str s_1,AV.str s_2,
 AV.int IntKind.i64 n_3,AV.sl ((3:Nat)) es Own.no]) ∧
 True ∧
 (decide (n < pn) = true →
 RetOpen
 (AV.p2 (4:Nat) (AV.int IntKind.i64 (↑x:Int)) &&
 boxesOk (4:Nat)
 [some [AV.str nm,AV.int IntKind.i64 nx,AV.sl ((8:Nat)) l1 Own.no],
 some
 [AV.str src,AV.bool ack,AV.int IntKind.i64 pn,AV.str fsrc,AV.int IntKind.i64 seq,AV.int IntKind.i64 kind,
 AV.int IntKind.i64 ref,AV.str tab,AV.str key,AV.int IntKind.i64 ev,AV.sl ((3:Nat)) fs Own.no],
 some [AV.str [],AV.int IntKind.i64 (0:Int),AV.sl ((0:Nat)) [] Own.nil],
 some [AV.tup [AV.bool true,AV.sl ((8:Nat)) (fcsL l) Own.no]]])
 (AV.int IntKind.i64 (↑x:Int))
 { boxes:=[some [AV.str nm,AV.int IntKind.i64 nx,AV.sl ((8:Nat)) l1 Own.no],some [AV.str src,AV.bool ack,AV.int IntKind.i64 pn,AV.str fsrc,AV.int IntKind.i64 seq,AV.int IntKind.i64 kind,AV.int IntKind.i64 ref,AV.str tab,AV.str key,AV.int IntKind.i64 ev,AV.sl ((3:Nat)) fs Own.no],some [AV.str [],AV.int IntKind.i64 (0:Int),AV.sl ((0:Nat)) [] Own.nil],some [AV.tup [AV.bool true,AV.sl ((8:Nat)) (fcsL l) Own.no]]],live:=[] }
 (AV.int IntKind.i64 (keptIdx pn (fcsL l)),
 { boxes:=[some [AV.str nm,AV.int IntKind.i64 nx,AV.sl ((8:Nat)) l1 Own.no],some [AV.str src,AV.bool ack,AV.int IntKind.i64 pn,AV.str fsrc,AV.int IntKind.i64 seq,AV.int IntKind.i64 kind,AV.int IntKind.i64 ref,AV.str tab,AV.str key,AV.int IntKind.i64 ev,AV.sl ((3:Nat)) fs Own.no],some [AV.str [],AV.int IntKind.i64 (0:Int),AV.sl ((0:Nat)) [] Own.nil],some [AV.tup [AV.bool true,AV.sl ((8:Nat)) (fcsL l) Own.no]]],live:=[] })) ∧
 (decide (n < pn) = false →
 ∃ (y:Nat),
 ValsAre
 [AV.ms ((3:Nat)) ((8:Nat)) l.length,AV.fn ((40:Nat)) [AV.ptr ((1:Nat)) ((0:Nat))],
 AV.int IntKind.i64 (↑l.length:Int),AV.int IntKind.i64 (IntKind.i64.wrap ((↑x:Int) + (1:Int)))]
 [AV.ms ((3:Nat)) ((8:Nat)) l.length,AV.fn ((40:Nat)) [AV.ptr ((1:Nat)) ((0:Nat))],
 AV.int IntKind.i64 (↑l.length:Int),AV.int IntKind.i64 (↑y:Int)] ∧
 StIs
 { boxes:=[some [AV.str nm,AV.int IntKind.i64 nx,AV.sl ((8:Nat)) l1 Own.no],some [AV.str src,AV.bool ack,AV.int IntKind.i64 pn,AV.str fsrc,AV.int IntKind.i64 seq,AV.int IntKind.i64 kind,AV.int IntKind.i64 ref,AV.str tab,AV.str key,AV.int IntKind.i64 ev,AV.sl ((3:Nat)) fs Own.no],some [AV.str [],AV.int IntKind.i64 (0:Int),AV.sl ((0:Nat)) [] Own.nil],some [AV.tup [AV.bool true,AV.sl ((8:Nat)) (fcsL l) Own.no]]],live:=[] }
 { boxes:=[some [AV.str nm,AV.int IntKind.i64 nx,AV.sl ((8:Nat)) l1 Own.no],some [AV.str src,AV.bool ack,AV.int IntKind.i64 pn,AV.str fsrc,AV.int IntKind.i64 seq,AV.int IntKind.i64 kind,AV.int IntKind.i64 ref,AV.str tab,AV.str key,AV.int IntKind.i64 ev,AV.sl ((3:Nat)) fs Own.no],some [AV.str [],AV.int IntKind.i64 (0:Int),AV.sl ((0:Nat)) [] Own.nil],some [AV.tup [AV.bool true,AV.sl ((8:Nat)) (fcsL l) Own.no]]],live:=[] } ∧
 (y≤l.length∧(List.take y l).all (keepF pn) = true)∧l.length - y < l.length - x)) ∧
        (decide ((↑x:Int) < (↑l.length:Int)) = false →
 RetOpen
 (AV.p2 (4:Nat) (AV.int IntKind.i64 (-1:Int)) &&
 boxesOk (4:Nat)
 [some [AV.str nm,AV.int IntKind.i64 nx,AV.sl ((8:Nat)) l1 Own.no],
 some
 [AV.str src,AV.bool ack,AV.int IntKind.i64 pn,AV.str fsrc,AV.int IntKind.i64 seq,AV.int IntKind.i64 kind,AV.int IntKind.i64 ref,
 AV.str tab,AV.str key,AV.int IntKind.i64 ev,AV.sl ((3:Nat)) fs Own.no],
 some [AV.str [],AV.int IntKind.i64 (0:Int),AV.sl ((0:Nat)) [] Own.nil],
 some [AV.tup [AV.bool true,AV.sl ((8:Nat)) (fcsL l) Own.no]]])
 (AV.int IntKind.i64 (-1:Int))
 { boxes:=[some [AV.str nm,AV.int IntKind.i64 nx,AV.sl ((8:Nat)) l1 Own.no],some [AV.str src,AV.bool ack,AV.int IntKind.i64 pn,AV.str fsrc,AV.int IntKind.i64 seq,AV.int IntKind.i64 kind,AV.int IntKind.i64 ref,AV.str tab,AV.str key,AV.int IntKind.i64 ev,AV.sl ((3:Nat)) fs Own.no],some [AV.str [],AV.int IntKind.i64 (0:Int),AV.sl ((0:Nat)) [] Own.nil],some [AV.tup [AV.bool true,AV.sl ((8:Nat)) (fcsL l) Own.no]]],live:=[] }
 (AV.int IntKind.i64 (keptIdx pn (fcsL l)),
 { boxes:=[some [AV.str nm,AV.int IntKind.i64 nx,AV.sl ((8:Nat)) l1 Own.no],some [AV.str src,AV.bool ack,AV.int IntKind.i64 pn,AV.str fsrc,AV.int IntKind.i64 seq,AV.int IntKind.i64 kind,AV.int IntKind.i64 ref,AV.str tab,AV.str key,AV.int IntKind.i64 ev,AV.sl ((3:Nat)) fs Own.no],some [AV.str [],AV.int IntKind.i64 (0:Int),AV.sl ((0:Nat)) [] Own.nil],some [AV.tup [AV.bool true,AV.sl ((8:Nat)) (fcsL l) Own.no]]],live:=[] }))):=by kernel_rfl
theorem w62e (m:Int) (z1:Nat) (nm src fsrc tab key:List UInt8) (nx pn seq kind ref ev:Int) (ack:Bool) (l1 fs:List AV):(openW PI (GI m) XK (tbl []) (itbl [(40,s47)]) (a62e nm nx z1 l1 (pkD src ack pn fsrc seq kind ref tab key ev fs)) [] 62 [.sl 8 [] .full,.fn 40 [.ptr 1 0]] (S3 nm nx z1 l1 (pkD src ack pn fsrc seq kind ref tab key ev fs)) (.int .i64 (-1),S3 nm nx z1 l1 (pkD src ack pn fsrc seq kind ref tab key ev fs))) =
((∃ (_y:Unit),
    ValsAre [AV.sl ((8:Nat)) [] Own.full,AV.fn ((40:Nat)) [AV.ptr ((1:Nat)) ((0:Nat))],AV.int IntKind.i64 (0:Int),AV.int IntKind.i64 (0:Int)]
        [AV.sl ((8:Nat)) [] Own.full,AV.fn ((40:Nat)) [AV.ptr ((1:Nat)) ((0:Nat))],AV.int IntKind.i64 (0:Int),AV.int IntKind.i64 (0:Int)] ∧
      StIs
 { boxes:=[some [AV.str nm,AV.int IntKind.i64 nx,AV.sl z1 l1 Own.no],some [AV.str src,AV.bool ack,AV.int IntKind.i64 pn,AV.str fsrc,AV.int IntKind.i64 seq,AV.int IntKind.i64 kind,AV.int IntKind.i64 ref,AV.str tab,AV.str key,AV.int IntKind.i64 ev,AV.sl ((3:Nat)) fs Own.no],some [AV.str [],AV.int IntKind.i64 (0:Int),AV.sl ((0:Nat)) [] Own.nil]],live:=[] }
 { boxes:=[some [AV.str nm,AV.int IntKind.i64 nx,AV.sl z1 l1 Own.no],some [AV.str src,AV.bool ack,AV.int IntKind.i64 pn,AV.str fsrc,AV.int IntKind.i64 seq,AV.int IntKind.i64 kind,AV.int IntKind.i64 ref,AV.str tab,AV.str key,AV.int IntKind.i64 ev,AV.sl ((3:Nat)) fs Own.no],some [AV.str [],AV.int IntKind.i64 (0:Int),AV.sl ((0:Nat)) [] Own.nil]],live:=[] } ∧
        True∧True) ∧
  ∀ (_x:Unit),
    True →
      (false = true →
 ((0:Int)≤(0:Int)∧(0:Int) < (0:Int)) ∧
 ∃ (s:List UInt8),
 ∃ (n:Int),
 ∃ (n_1:Int),
 ∃ (n_2:Int),
 ∃ (s_1:List UInt8),
 ∃ (s_2:List UInt8),
 ∃ (n_3:Int),
 ∃ (es:List AV),
 none =
 some
 (AV.agg
 [AV.str s,AV.int IntKind.i64 n,AV.int IntKind.i64 n_1,AV.int IntKind.i64 n_2,AV.str s_1,AV.str s_2,
 AV.int IntKind.i64 n_3,AV.sl ((3:Nat)) es Own.no]) ∧
 False) ∧
        (false = false →
 RetOpen
 (AV.p2 (3:Nat) (AV.int IntKind.i64 (-1:Int)) &&
 boxesOk (3:Nat)
 [some [AV.str nm,AV.int IntKind.i64 nx,AV.sl z1 l1 Own.no],
 some
 [AV.str src,AV.bool ack,AV.int IntKind.i64 pn,AV.str fsrc,AV.int IntKind.i64 seq,AV.int IntKind.i64 kind,AV.int IntKind.i64 ref,
 AV.str tab,AV.str key,AV.int IntKind.i64 ev,AV.sl ((3:Nat)) fs Own.no],
 some [AV.str [],AV.int IntKind.i64 (0:Int),AV.sl ((0:Nat)) [] Own.nil]])
 (AV.int IntKind.i64 (-1:Int))
 { boxes:=[some [AV.str nm,AV.int IntKind.i64 nx,AV.sl z1 l1 Own.no],some [AV.str src,AV.bool ack,AV.int IntKind.i64 pn,AV.str fsrc,AV.int IntKind.i64 seq,AV.int IntKind.i64 kind,AV.int IntKind.i64 ref,AV.str tab,AV.str key,AV.int IntKind.i64 ev,AV.sl ((3:Nat)) fs Own.no],some [AV.str [],AV.int IntKind.i64 (0:Int),AV.sl ((0:Nat)) [] Own.nil]],live:=[] }
 (AV.int IntKind.i64 (-1:Int),
 { boxes:=[some [AV.str nm,AV.int IntKind.i64 nx,AV.sl z1 l1 Own.no],some [AV.str src,AV.bool ack,AV.int IntKind.i64 pn,AV.str fsrc,AV.int IntKind.i64 seq,AV.int IntKind.i64 kind,AV.int IntKind.i64 ref,AV.str tab,AV.str key,AV.int IntKind.i64 ev,AV.sl ((3:Nat)) fs Own.no],some [AV.str [],AV.int IntKind.i64 (0:Int),AV.sl ((0:Nat)) [] Own.nil]],live:=[] }))):=by kernel_rfl
theorem w46 (m:Int) (nm src fsrc tab key:List UInt8) (nx pn seq kind ref ev:Int) (ack:Bool) (l1 fs:List AV) (l:List FcI):(openW PI (GI m) XK (tbl []) (itbl [(40,s47),(62,s62)]) (a46 nm nx l1 (pkD src ack pn fsrc seq kind ref tab key ev fs) pn l) [] 39 [.ms 3 8 l.length,.fn 40 [.ptr 1 0]] (S4 nm nx l1 (pkD src ack pn fsrc seq kind ref tab key ev fs) l) (.ms 3 8 (keptOpen pn (fcsL l)).length,⟨[some (sdC nm nx 8 l1),some (pkD src ack pn fsrc seq kind ref tab key ev fs),some sdZ,some (ownC 8 (keptOpen pn (fcsL l)))],[]⟩)) =
(((∃ (l_1 : List FcI), fcsL l = fcsL l_1) ∧ l.length = (fcsL l).length ∧ (fcsL l).length ≤ (2000000 : Nat)) ∧
  ((keptIdx pn (fcsL l) == (-1:Int)) = true →
      RetOpen
        (AV.p2 (4:Nat) (AV.ms ((3:Nat)) ((8:Nat)) l.length) &&
 boxesOk (4:Nat)
 [some [AV.str nm,AV.int IntKind.i64 nx,AV.sl ((8:Nat)) l1 Own.no],
 some
 [AV.str src,AV.bool ack,AV.int IntKind.i64 pn,AV.str fsrc,AV.int IntKind.i64 seq,AV.int IntKind.i64 kind,AV.int IntKind.i64 ref,
 AV.str tab,AV.str key,AV.int IntKind.i64 ev,AV.sl ((3:Nat)) fs Own.no],
 some [AV.str [],AV.int IntKind.i64 (0:Int),AV.sl ((0:Nat)) [] Own.nil],some [AV.tup [AV.bool true,AV.sl ((8:Nat)) (fcsL l) Own.no]]])
        (AV.ms ((3:Nat)) ((8:Nat)) l.length)
        { boxes:=[some [AV.str nm,AV.int IntKind.i64 nx,AV.sl ((8:Nat)) l1 Own.no],some [AV.str src,AV.bool ack,AV.int IntKind.i64 pn,AV.str fsrc,AV.int IntKind.i64 seq,AV.int IntKind.i64 kind,AV.int IntKind.i64 ref,AV.str tab,AV.str key,AV.int IntKind.i64 ev,AV.sl ((3:Nat)) fs Own.no],some [AV.str [],AV.int IntKind.i64 (0:Int),AV.sl ((0:Nat)) [] Own.nil],some [AV.tup [AV.bool true,AV.sl ((8:Nat)) (fcsL l) Own.no]]],live:=[] }
        (AV.ms ((3:Nat)) ((8:Nat)) (keptOpen pn (fcsL l)).length,
 { boxes:=[some [AV.str nm,AV.int IntKind.i64 nx,AV.sl ((8:Nat)) l1 Own.no],some [AV.str src,AV.bool ack,AV.int IntKind.i64 pn,AV.str fsrc,AV.int IntKind.i64 seq,AV.int IntKind.i64 kind,AV.int IntKind.i64 ref,AV.str tab,AV.str key,AV.int IntKind.i64 ev,AV.sl ((3:Nat)) fs Own.no],some [AV.str [],AV.int IntKind.i64 (0:Int),AV.sl ((0:Nat)) [] Own.nil],some [AV.tup [AV.bool true,AV.sl ((8:Nat)) (keptOpen pn (fcsL l)) Own.no]]],live:=[] })) ∧
    ((keptIdx pn (fcsL l) == (-1 : Int)) = false →
      (∃ (y:St46),
 ValsAre
 [AV.ms ((3:Nat)) ((8:Nat)) l.length,AV.fn ((40:Nat)) [AV.ptr ((1:Nat)) ((0:Nat))],AV.int IntKind.i64 (keptIdx pn (fcsL l)),
 AV.int IntKind.i64 (IntKind.i64.wrap (keptIdx pn (fcsL l) + (1:Int)))]
 [AV.ms ((3:Nat)) ((8:Nat)) l.length,AV.fn ((40:Nat)) [AV.ptr ((1:Nat)) ((0:Nat))],AV.int IntKind.i64 (↑y.j:Int),
 AV.int IntKind.i64 (↑y.i:Int)] ∧
 StIs
 { boxes:=[some [AV.str nm,AV.int IntKind.i64 nx,AV.sl ((8:Nat)) l1 Own.no],some [AV.str src,AV.bool ack,AV.int IntKind.i64 pn,AV.str fsrc,AV.int IntKind.i64 seq,AV.int IntKind.i64 kind,AV.int IntKind.i64 ref,AV.str tab,AV.str key,AV.int IntKind.i64 ev,AV.sl ((3:Nat)) fs Own.no],some [AV.str [],AV.int IntKind.i64 (0:Int),AV.sl ((0:Nat)) [] Own.nil],some [AV.tup [AV.bool true,AV.sl ((8:Nat)) (fcsL l) Own.no]]],live:=[] }
 { boxes:=[some [AV.str nm,AV.int IntKind.i64 nx,AV.sl ((8:Nat)) l1 Own.no],some [AV.str src,AV.bool ack,AV.int IntKind.i64 pn,AV.str fsrc,AV.int IntKind.i64 seq,AV.int IntKind.i64 kind,AV.int IntKind.i64 ref,AV.str tab,AV.str key,AV.int IntKind.i64 ev,AV.sl ((3:Nat)) fs Own.no],some [AV.str [],AV.int IntKind.i64 (0:Int),AV.sl ((0:Nat)) [] Own.nil],some [AV.tup [AV.bool true,AV.sl ((8:Nat)) (fcsL y.cur) Own.no]]],live:=[] } ∧
 (y.j < y.i ∧
 y.i≤l.length ∧
 y.cur.length = l.length∧List.take y.j y.cur = List.filter (keepF pn) (List.take y.i l)∧List.drop y.i y.cur = List.drop y.i l) ∧
 True) ∧
        ∀ (x:St46),
 x.j < x.i ∧
 x.i≤l.length ∧
 x.cur.length = l.length∧List.take x.j x.cur = List.filter (keepF pn) (List.take x.i l)∧List.drop x.i x.cur = List.drop x.i l →
 (decide ((↑x.i:Int) < (↑l.length:Int)) = true →
 ((0:Int)≤(↑x.i:Int)∧(↑x.i:Int) < (↑l.length:Int)) ∧
 ∃ (s:List UInt8),
 ∃ (n:Int),
 ∃ (n_1:Int),
 ∃ (n_2:Int),
 ∃ (s_1:List UInt8),
 ∃ (s_2:List UInt8),
 ∃ (n_3:Int),
 ∃ (es:List AV),
 takeAt PI ((29:Nat)) (fcsL x.cur) (↑x.i:Int).toNat ((0:Nat)) =
 some
 (AV.agg
 [AV.str s,AV.int IntKind.i64 n,AV.int IntKind.i64 n_1,AV.int IntKind.i64 n_2,AV.str s_1,AV.str s_2,
 AV.int IntKind.i64 n_3,AV.sl ((3:Nat)) es Own.no]) ∧
 True ∧
 (decide (n < pn) = true →
 ∃ (y:St46),
 ValsAre
 [AV.ms ((3:Nat)) ((8:Nat)) l.length,AV.fn ((40:Nat)) [AV.ptr ((1:Nat)) ((0:Nat))],
 AV.int IntKind.i64 (↑x.j:Int),AV.int IntKind.i64 (IntKind.i64.wrap ((↑x.i:Int) + (1:Int)))]
 [AV.ms ((3:Nat)) ((8:Nat)) l.length,AV.fn ((40:Nat)) [AV.ptr ((1:Nat)) ((0:Nat))],
 AV.int IntKind.i64 (↑y.j:Int),AV.int IntKind.i64 (↑y.i:Int)] ∧
 StIs
 { boxes:=[some [AV.str nm,AV.int IntKind.i64 nx,AV.sl ((8:Nat)) l1 Own.no],some [AV.str src,AV.bool ack,AV.int IntKind.i64 pn,AV.str fsrc,AV.int IntKind.i64 seq,AV.int IntKind.i64 kind,AV.int IntKind.i64 ref,AV.str tab,AV.str key,AV.int IntKind.i64 ev,AV.sl ((3:Nat)) fs Own.no],some [AV.str [],AV.int IntKind.i64 (0:Int),AV.sl ((0:Nat)) [] Own.nil],some [AV.tup [AV.bool true,AV.sl ((8:Nat)) (fcsL x.cur) Own.no]]],live:=[] }
 { boxes:=[some [AV.str nm,AV.int IntKind.i64 nx,AV.sl ((8:Nat)) l1 Own.no],some [AV.str src,AV.bool ack,AV.int IntKind.i64 pn,AV.str fsrc,AV.int IntKind.i64 seq,AV.int IntKind.i64 kind,AV.int IntKind.i64 ref,AV.str tab,AV.str key,AV.int IntKind.i64 ev,AV.sl ((3:Nat)) fs Own.no],some [AV.str [],AV.int IntKind.i64 (0:Int),AV.sl ((0:Nat)) [] Own.nil],some [AV.tup [AV.bool true,AV.sl ((8:Nat)) (fcsL y.cur) Own.no]]],live:=[] } ∧
 (y.j < y.i ∧
 y.i≤l.length ∧
 y.cur.length = l.length ∧
 List.take y.j y.cur = List.filter (keepF pn) (List.take y.i l) ∧
 List.drop y.i y.cur = List.drop y.i l) ∧
 l.length - y.i < l.length - x.i) ∧
 (decide (n < pn) = false →
 ((0:Int)≤(↑x.j:Int)∧(↑x.j:Int) < (↑l.length:Int)) ∧
 (↑x.j:Int).toNat < (fcsL x.cur).length ∧
 ∃ (y:St46),
 ValsAre
 [AV.ms ((3:Nat)) ((8:Nat)) l.length,AV.fn ((40:Nat)) [AV.ptr ((1:Nat)) ((0:Nat))],
 AV.int IntKind.i64 (IntKind.i64.wrap ((↑x.j:Int) + (1:Int))),
 AV.int IntKind.i64 (IntKind.i64.wrap ((↑x.i:Int) + (1:Int)))]
 [AV.ms ((3:Nat)) ((8:Nat)) l.length,AV.fn ((40:Nat)) [AV.ptr ((1:Nat)) ((0:Nat))],
 AV.int IntKind.i64 (↑y.j:Int),AV.int IntKind.i64 (↑y.i:Int)] ∧
 StIs
 { boxes:=[some [AV.str nm,AV.int IntKind.i64 nx,AV.sl ((8:Nat)) l1 Own.no],some [AV.str src,AV.bool ack,AV.int IntKind.i64 pn,AV.str fsrc,AV.int IntKind.i64 seq,AV.int IntKind.i64 kind,AV.int IntKind.i64 ref,AV.str tab,AV.str key,AV.int IntKind.i64 ev,AV.sl ((3:Nat)) fs Own.no],some [AV.str [],AV.int IntKind.i64 (0:Int),AV.sl ((0:Nat)) [] Own.nil],some [AV.tup [AV.bool true,AV.sl ((8:Nat)) ((fcsL x.cur).set (↑x.j:Int).toNat (keptSetC ((fcsL x.cur).getD (↑x.j:Int).toNat AV.junk) ((0:Nat)) [AV.str s,AV.int IntKind.i64 n,AV.int IntKind.i64 n_1,AV.int IntKind.i64 n_2,AV.str s_1,AV.str s_2,AV.int IntKind.i64 n_3,AV.sl ((3:Nat)) es Own.no])) Own.no]]],live:=[] }
 { boxes:=[some [AV.str nm,AV.int IntKind.i64 nx,AV.sl ((8:Nat)) l1 Own.no],some [AV.str src,AV.bool ack,AV.int IntKind.i64 pn,AV.str fsrc,AV.int IntKind.i64 seq,AV.int IntKind.i64 kind,AV.int IntKind.i64 ref,AV.str tab,AV.str key,AV.int IntKind.i64 ev,AV.sl ((3:Nat)) fs Own.no],some [AV.str [],AV.int IntKind.i64 (0:Int),AV.sl ((0:Nat)) [] Own.nil],some [AV.tup [AV.bool true,AV.sl ((8:Nat)) (fcsL y.cur) Own.no]]],live:=[] } ∧
 (y.j < y.i ∧
 y.i≤l.length ∧
 y.cur.length = l.length ∧
 List.take y.j y.cur = List.filter (keepF pn) (List.take y.i l) ∧
 List.drop y.i y.cur = List.drop y.i l) ∧
 l.length - y.i < l.length - x.i)) ∧
 (decide ((↑x.i:Int) < (↑l.length:Int)) = false →
 (0:Int)≤(↑x.j:Int) ∧
 True ∧
 ((↑x.j:Int).toNat≤l.length∧l.length≤l.length) ∧
 True ∧
 (↑x.j:Int).toNat + (l.length - (↑x.j:Int).toNat)≤(fcsL x.cur).length ∧
 (0:Int)≤(↑x.j:Int) ∧
 True ∧
 ((0:Nat)≤(↑x.j:Int).toNat∧(↑x.j:Int).toNat≤l.length) ∧
 RetOpen
 (AV.p2 (4:Nat) (AV.ms ((3:Nat)) ((8:Nat)) (↑x.j:Int).toNat) &&
 boxesOk (4:Nat)
 [some [AV.str nm,AV.int IntKind.i64 nx,AV.sl ((8:Nat)) l1 Own.no],
 some
 [AV.str src,AV.bool ack,AV.int IntKind.i64 pn,AV.str fsrc,AV.int IntKind.i64 seq,AV.int IntKind.i64 kind,
 AV.int IntKind.i64 ref,AV.str tab,AV.str key,AV.int IntKind.i64 ev,AV.sl ((3:Nat)) fs Own.no],
 some [AV.str [],AV.int IntKind.i64 (0:Int),AV.sl ((0:Nat)) [] Own.nil],
 some [AV.tup [AV.bool true,AV.sl ((8:Nat)) (List.take (↑x.j:Int).toNat (fcsL x.cur)) Own.no]]])
 (AV.ms ((3:Nat)) ((8:Nat)) (↑x.j:Int).toNat)
 { boxes:=[some [AV.str nm,AV.int IntKind.i64 nx,AV.sl ((8:Nat)) l1 Own.no],some [AV.str src,AV.bool ack,AV.int IntKind.i64 pn,AV.str fsrc,AV.int IntKind.i64 seq,AV.int IntKind.i64 kind,AV.int IntKind.i64 ref,AV.str tab,AV.str key,AV.int IntKind.i64 ev,AV.sl ((3:Nat)) fs Own.no],some [AV.str [],AV.int IntKind.i64 (0:Int),AV.sl ((0:Nat)) [] Own.nil],some [AV.tup [AV.bool true,AV.sl ((8:Nat)) (List.take (↑x.j:Int).toNat (fcsL x.cur)) Own.no]]],live:=[] }
 (AV.ms ((3:Nat)) ((8:Nat)) (keptOpen pn (fcsL l)).length,
 { boxes:=[some [AV.str nm,AV.int IntKind.i64 nx,AV.sl ((8:Nat)) l1 Own.no],some [AV.str src,AV.bool ack,AV.int IntKind.i64 pn,AV.str fsrc,AV.int IntKind.i64 seq,AV.int IntKind.i64 kind,AV.int IntKind.i64 ref,AV.str tab,AV.str key,AV.int IntKind.i64 ev,AV.sl ((3:Nat)) fs Own.no],some [AV.str [],AV.int IntKind.i64 (0:Int),AV.sl ((0:Nat)) [] Own.nil],some [AV.tup [AV.bool true,AV.sl ((8:Nat)) (keptOpen pn (fcsL l)) Own.no]]],live:=[] })))):=by kernel_rfl
theorem w46e (m:Int) (z1:Nat) (nm src fsrc tab key:List UInt8) (nx pn seq kind ref ev:Int) (ack:Bool) (l1 fs:List AV):(openW PI (GI m) XK (tbl []) (itbl [(40,s47),(62,s62)]) nAn [] 39 [.sl 8 [] .full,.fn 40 [.ptr 1 0]] (S3 nm nx z1 l1 (pkD src ack pn fsrc seq kind ref tab key ev fs)) (.sl 8 [] .full,S3 nm nx z1 l1 (pkD src ack pn fsrc seq kind ref tab key ev fs))) =
(True ∧
  (true = true →
      RetOpen
        (AV.p2 (3:Nat) (AV.sl ((8:Nat)) [] Own.full) &&
 boxesOk (3:Nat)
 [some [AV.str nm,AV.int IntKind.i64 nx,AV.sl z1 l1 Own.no],
 some
 [AV.str src,AV.bool ack,AV.int IntKind.i64 pn,AV.str fsrc,AV.int IntKind.i64 seq,AV.int IntKind.i64 kind,AV.int IntKind.i64 ref,
 AV.str tab,AV.str key,AV.int IntKind.i64 ev,AV.sl ((3:Nat)) fs Own.no],
 some [AV.str [],AV.int IntKind.i64 (0:Int),AV.sl ((0:Nat)) [] Own.nil]])
        (AV.sl ((8:Nat)) [] Own.full)
        { boxes:=[some [AV.str nm,AV.int IntKind.i64 nx,AV.sl z1 l1 Own.no],some [AV.str src,AV.bool ack,AV.int IntKind.i64 pn,AV.str fsrc,AV.int IntKind.i64 seq,AV.int IntKind.i64 kind,AV.int IntKind.i64 ref,AV.str tab,AV.str key,AV.int IntKind.i64 ev,AV.sl ((3:Nat)) fs Own.no],some [AV.str [],AV.int IntKind.i64 (0:Int),AV.sl ((0:Nat)) [] Own.nil]],live:=[] }
        (AV.sl ((8:Nat)) [] Own.full,
 { boxes:=[some [AV.str nm,AV.int IntKind.i64 nx,AV.sl z1 l1 Own.no],some [AV.str src,AV.bool ack,AV.int IntKind.i64 pn,AV.str fsrc,AV.int IntKind.i64 seq,AV.int IntKind.i64 kind,AV.int IntKind.i64 ref,AV.str tab,AV.str key,AV.int IntKind.i64 ev,AV.sl ((3:Nat)) fs Own.no],some [AV.str [],AV.int IntKind.i64 (0:Int),AV.sl ((0:Nat)) [] Own.nil]],live:=[] })) ∧
    (true = false→False)):=by kernel_rfl
theorem w45 (m:Int) (f1 f5 f6:List UInt8) (f2 f3 f4 f7:Int) (f8:List AV):(pureW PI (GI m) XK (tbl []) (itbl []) nAn [] 37 [.agg [.str f1,.int .i64 f2,.int .i64 f3,.int .i64 f4,.str f5,.str f6,.int .i64 f7,.sl 3 f8 .no]] (pkF [.str f1,.int .i64 f2,.int .i64 f3,.int .i64 f4,.str f5,.str f6,.int .i64 f7,.sl 3 f8 .no] f1,[])) =
(RetIs
 (AV.agg
  [AV.str f1,AV.bool false,AV.int IntKind.i64 (0:Int),AV.str f1,AV.int IntKind.i64 f2,AV.int IntKind.i64 f3,AV.int IntKind.i64 f4,AV.str f5,
   AV.str f6,AV.int IntKind.i64 f7,AV.sl ((3:Nat)) f8 Own.no])
 []
 (AV.agg
   [AV.str f1,AV.bool false,AV.int IntKind.i64 (0:Int),AV.str f1,AV.int IntKind.i64 f2,AV.int IntKind.i64 f3,AV.int IntKind.i64 f4,AV.str f5,
    AV.str f6,AV.int IntKind.i64 f7,AV.sl ((3:Nat)) f8 Own.no],
  [])):=by kernel_rfl
theorem w44 (m:Int) (x:AV) (es:List AV):(pureW PI (GI m) XK (tbl []) (itbl []) nAn [] 36 [.sl 8 (x :: es) .no] (.sl 8 (x :: es) (.tok 0),[(es.length + 1,29)])) =
((x :: es).isEmpty = false ∧
  ((8 : Nat) = (8 : Nat) ∨ ([] : List AV) = []) ∧
    ((0 : Nat) + (x :: es).length) * (105 : Nat) ≤ (70368744177664 : Nat) ∧
      (x :: es = []→RetIs (AV.sl ((8:Nat)) [] Own.full) [] (AV.sl ((8:Nat)) (x :: es) (Own.tok ((0:Nat))),[(es.length + (1:Nat),(29:Nat))])) ∧
        (x :: es ≠ [] →
 ((0:Nat) + (x :: es).length,(29:Nat)).fst = (x :: es).length ∧
 RetIs (AV.sl ((8:Nat)) (x :: es) (Own.tok ((0:Nat)))) [((0:Nat) + (x :: es).length,(29:Nat))]
 (AV.sl ((8:Nat)) (x :: es) (Own.tok ((0:Nat))),[(es.length + (1:Nat),(29:Nat))]))):=by kernel_rfl
theorem w22 (m:Int) (nm:List UInt8) (nx:Int) (l:List FcI):(laxW PI (GI m) XK (tbl [(37,s45)]) (itbl []) (a22 nm nx l) [] 16 [.agg (sdC nm nx 8 (fcsL l))] (.sl 11 (pksL (resP l)) .no,[])) =
((∃ (y:Nat),
    ValsAre
        [AV.ptr ((0:Nat)) ((0:Nat)),AV.sl ((11:Nat)) [] (Own.tok (0:Nat)),AV.sl ((8:Nat)) (fcsL l) Own.no,
 AV.int IntKind.i64 (↑(fcsL l).length:Int),AV.int IntKind.i64 (0:Int)]
        [AV.ptr ((0:Nat)) ((0:Nat)),AV.sl ((11:Nat)) (pksL (resP (List.take y l))) (Own.tok ((0:Nat))),AV.sl ((8:Nat)) (fcsL l) Own.no,
 AV.int IntKind.i64 (↑l.length:Int),AV.int IntKind.i64 (↑y:Int)] ∧
      StIs { boxes:=[some [AV.str nm,AV.int IntKind.i64 nx,AV.sl ((8:Nat)) (fcsL l) Own.no]],live:=[((0:Nat),(31:Nat))] }
 { boxes:=[some [AV.str nm,AV.int IntKind.i64 nx,AV.sl ((8:Nat)) (fcsL l) Own.no]],live:=[((resP (List.take y l)).length,(31:Nat))] } ∧
        y≤l.length∧True) ∧
  ∀ (x:Nat),
    x≤l.length →
      (decide ((↑x:Int) < (↑l.length:Int)) = true →
 ((0:Int)≤(↑x:Int)∧(↑x:Int) < (↑(fcsL l).length:Int)) ∧
 ∃ (s:List UInt8),
 ∃ (n:Int),
 ∃ (n_1:Int),
 ∃ (n_2:Int),
 ∃ (s_1:List UInt8),
 ∃ (s_2:List UInt8),
 ∃ (n_3:Int),
 ∃ (es:List AV),
 takeAt PI ((29:Nat)) (fcsL l) (↑x:Int).toNat ((0:Nat)) =
 some
 (AV.agg
 [AV.str s,AV.int IntKind.i64 n,AV.int IntKind.i64 n_1,AV.int IntKind.i64 n_2,AV.str s_1,AV.str s_2,
 AV.int IntKind.i64 n_3,AV.sl ((3:Nat)) es Own.no]) ∧
 ∃ (s_3:List UInt8),
 ∃ (b:Bool),
 ∃ (n_4:Int),
 ∃ (s_4:List UInt8),
 ∃ (n_5:Int),
 ∃ (n_6:Int),
 ∃ (n_7:Int),
 ∃ (s_5:List UInt8),
 ∃ (s_6:List UInt8),
 ∃ (n_8:Int),
 ∃ (es_1:List AV),
 CallIs
 (some
 (AV.agg
 [AV.str s,AV.bool false,AV.int IntKind.i64 (0:Int),AV.str s,AV.int IntKind.i64 n,
 AV.int IntKind.i64 n_1,AV.int IntKind.i64 n_2,AV.str s_1,AV.str s_2,AV.int IntKind.i64 n_3,
 AV.sl ((3:Nat)) es Own.no],
 []))
 (AV.agg
 [AV.str s_3,AV.bool b,AV.int IntKind.i64 n_4,AV.str s_4,AV.int IntKind.i64 n_5,
 AV.int IntKind.i64 n_6,AV.int IntKind.i64 n_7,AV.str s_5,AV.str s_6,AV.int IntKind.i64 n_8,
 AV.sl ((3:Nat)) es_1 Own.no])
 [] ∧
 ((11:Nat) = (11:Nat)∨pksL (resP (List.take x l)) = []) ∧
 ((pksL (resP (List.take x l))).length + (1:Nat)) * (137:Nat)≤(70368744177664:Nat) ∧
 (resP (List.take x l)).length = (pksL (resP (List.take x l))).length ∧
 ∃ (y:Nat),
 ValsAre
 [AV.ptr ((0:Nat)) ((0:Nat)),
 AV.sl ((11:Nat))
 (pksL (resP (List.take x l)) ++
 [AV.agg
 [AV.str s_3,AV.bool b,AV.int IntKind.i64 n_4,AV.str s_4,AV.int IntKind.i64 n_5,
 AV.int IntKind.i64 n_6,AV.int IntKind.i64 n_7,AV.str s_5,AV.str s_6,
 AV.int IntKind.i64 n_8,AV.sl ((3:Nat)) es_1 Own.no]])
 (Own.tok ((0:Nat))),
 AV.sl ((8:Nat)) (fcsL l) Own.no,AV.int IntKind.i64 (↑l.length:Int),
 AV.int IntKind.i64 (IntKind.i64.wrap ((↑x:Int) + (1:Int)))]
 [AV.ptr ((0:Nat)) ((0:Nat)),
 AV.sl ((11:Nat)) (pksL (resP (List.take y l))) (Own.tok ((0:Nat))),
 AV.sl ((8:Nat)) (fcsL l) Own.no,AV.int IntKind.i64 (↑l.length:Int),
 AV.int IntKind.i64 (↑y:Int)] ∧
 StIs
 { boxes:=[some [AV.str nm,AV.int IntKind.i64 nx,AV.sl ((8:Nat)) (fcsL l) Own.no]],live:=[((pksL (resP (List.take x l))).length + (1:Nat),(31:Nat))] }
 { boxes:=[some [AV.str nm,AV.int IntKind.i64 nx,AV.sl ((8:Nat)) (fcsL l) Own.no]],live:=[((resP (List.take y l)).length,(31:Nat))] } ∧
 y≤l.length∧l.length - y < l.length - x) ∧
        (decide ((↑x:Int) < (↑l.length:Int)) = false →
 RetLax (AV.sl ((11:Nat)) (pksL (resP (List.take x l))) (Own.tok ((0:Nat)))) (AV.sl ((11:Nat)) (pksL (resP l)) Own.no,[]))):=by kernel_rfl
theorem w23 (m:Int) (nm src fsrc tab key:List UInt8) (nx pn seq kind ref ev:Int) (ack:Bool) (fs:List AV) (f:FcI) (l:List FcI) (rn:List UInt8) (rx rc:Int) (rl:List FcI):(laxW PI (GI m) XK (tbl []) (itbl [(36,s44n),(39,s46)]) nAn [] 18 [.agg (sdC nm nx 8 (fcA f :: fcsL l)),.agg (pkD src ack pn fsrc seq kind ref tab key ev fs)] (.tup [.agg (sdC rn rx 8 (fcsL rl)),.int .i64 rc],[])) =
((ack = true →
    ((!src == nm) = true →
        RetLax (AV.tup [AV.agg [AV.str [],AV.int IntKind.i64 (0:Int),AV.sl ((0:Nat)) [] Own.nil],AV.int IntKind.i64 (1:Int)])
 (AV.tup [AV.agg [AV.str rn,AV.int IntKind.i64 rx,AV.sl ((8:Nat)) (fcsL rl) Own.no],AV.int IntKind.i64 rc],[])) ∧
      ((!src == nm) = false →
        (decide (pn < (1:Int)) = true →
 RetLax (AV.tup [AV.agg [AV.str [],AV.int IntKind.i64 (0:Int),AV.sl ((0:Nat)) [] Own.nil],AV.int IntKind.i64 (1:Int)])
 (AV.tup [AV.agg [AV.str rn,AV.int IntKind.i64 rx,AV.sl ((8:Nat)) (fcsL rl) Own.no],AV.int IntKind.i64 rc],[])) ∧
 (decide (pn < (1:Int)) = false →
 (decide (pn > nx) = true →
 RetLax (AV.tup [AV.agg [AV.str [],AV.int IntKind.i64 (0:Int),AV.sl ((0:Nat)) [] Own.nil],AV.int IntKind.i64 (1:Int)])
 (AV.tup [AV.agg [AV.str rn,AV.int IntKind.i64 rx,AV.sl ((8:Nat)) (fcsL rl) Own.no],AV.int IntKind.i64 rc],[])) ∧
 (decide (pn > nx) = false →
 (AV.agg
 [AV.str f.src,AV.int IntKind.i64 f.seq,AV.int IntKind.i64 f.kind,AV.int IntKind.i64 f.ref,AV.str f.table,AV.str f.key,
 AV.int IntKind.i64 f.event,AV.sl ((3:Nat)) (vasL f.fs) Own.no] ::
 fcsL l ≠
 [] ∧
 (AV.agg
 [AV.str f.src,AV.int IntKind.i64 f.seq,AV.int IntKind.i64 f.kind,AV.int IntKind.i64 f.ref,AV.str f.table,AV.str f.key,
 AV.int IntKind.i64 f.event,AV.sl ((3:Nat)) (vasL f.fs) Own.no] ::
 fcsL l).length *
 (104:Nat) ≤
 (140737488355328:Nat)) ∧
 ((∃ (l_1:List FcI),
 AV.agg
 [AV.str f.src,AV.int IntKind.i64 f.seq,AV.int IntKind.i64 f.kind,AV.int IntKind.i64 f.ref,AV.str f.table,AV.str f.key,
 AV.int IntKind.i64 f.event,AV.sl ((3:Nat)) (vasL f.fs) Own.no] ::
 fcsL l =
 fcsL l_1) ∧
 (AV.agg
 [AV.str f.src,AV.int IntKind.i64 f.seq,AV.int IntKind.i64 f.kind,AV.int IntKind.i64 f.ref,AV.str f.table,AV.str f.key,
 AV.int IntKind.i64 f.event,AV.sl ((3:Nat)) (vasL f.fs) Own.no] ::
 fcsL l).length =
 (AV.agg
 [AV.str f.src,AV.int IntKind.i64 f.seq,AV.int IntKind.i64 f.kind,AV.int IntKind.i64 f.ref,AV.str f.table,AV.str f.key,
 AV.int IntKind.i64 f.event,AV.sl ((3:Nat)) (vasL f.fs) Own.no] ::
 fcsL l).length ∧
 (AV.agg
 [AV.str f.src,AV.int IntKind.i64 f.seq,AV.int IntKind.i64 f.kind,AV.int IntKind.i64 f.ref,AV.str f.table,AV.str f.key,
 AV.int IntKind.i64 f.event,AV.sl ((3:Nat)) (vasL f.fs) Own.no] ::
 fcsL l).length ≤
 (2000000:Nat)) ∧
 (keptOpen pn
 (AV.agg
 [AV.str f.src,AV.int IntKind.i64 f.seq,AV.int IntKind.i64 f.kind,AV.int IntKind.i64 f.ref,AV.str f.table,AV.str f.key,
 AV.int IntKind.i64 f.event,AV.sl ((3:Nat)) (vasL f.fs) Own.no] ::
 fcsL l)).length =
 (keptOpen pn
 (AV.agg
 [AV.str f.src,AV.int IntKind.i64 f.seq,AV.int IntKind.i64 f.kind,AV.int IntKind.i64 f.ref,AV.str f.table,AV.str f.key,
 AV.int IntKind.i64 f.event,AV.sl ((3:Nat)) (vasL f.fs) Own.no] ::
 fcsL l)).length ∧
 RetLax
 (AV.tup
 [AV.agg
 [AV.str nm,AV.int IntKind.i64 nx,
 AV.sl ((8:Nat))
 (keptOpen pn
 (AV.agg
 [AV.str f.src,AV.int IntKind.i64 f.seq,AV.int IntKind.i64 f.kind,AV.int IntKind.i64 f.ref,AV.str f.table,
 AV.str f.key,AV.int IntKind.i64 f.event,AV.sl ((3:Nat)) (vasL f.fs) Own.no] ::
 fcsL l))
 Own.no],
 AV.int IntKind.i64 (0:Int)])
 (AV.tup [AV.agg [AV.str rn,AV.int IntKind.i64 rx,AV.sl ((8:Nat)) (fcsL rl) Own.no],AV.int IntKind.i64 rc],[]))))) ∧
  (ack = false →
    RetLax (AV.tup [AV.agg [AV.str [],AV.int IntKind.i64 (0:Int),AV.sl ((0:Nat)) [] Own.nil],AV.int IntKind.i64 (1:Int)])
      (AV.tup [AV.agg [AV.str rn,AV.int IntKind.i64 rx,AV.sl ((8:Nat)) (fcsL rl) Own.no],AV.int IntKind.i64 rc],[]))):=by kernel_rfl
theorem w23e (m:Int) (sz:Nat) (nm src fsrc tab key:List UInt8) (nx pn seq kind ref ev:Int) (ack:Bool) (fs:List AV) (rn:List UInt8) (rx rc:Int):(laxW PI (GI m) XK (tbl []) (itbl [(36,s44n),(39,s46)]) nAn [] 18 [.agg (sdC nm nx sz []),.agg (pkD src ack pn fsrc seq kind ref tab key ev fs)] (.tup [.agg (sdC rn rx 8 []),.int .i64 rc],[])) =
((ack = true →
    ((!src == nm) = true →
        RetLax (AV.tup [AV.agg [AV.str [],AV.int IntKind.i64 (0:Int),AV.sl ((0:Nat)) [] Own.nil],AV.int IntKind.i64 (1:Int)])
 (AV.tup [AV.agg [AV.str rn,AV.int IntKind.i64 rx,AV.sl ((8:Nat)) [] Own.no],AV.int IntKind.i64 rc],[])) ∧
      ((!src == nm) = false →
        (decide (pn < (1:Int)) = true →
 RetLax (AV.tup [AV.agg [AV.str [],AV.int IntKind.i64 (0:Int),AV.sl ((0:Nat)) [] Own.nil],AV.int IntKind.i64 (1:Int)])
 (AV.tup [AV.agg [AV.str rn,AV.int IntKind.i64 rx,AV.sl ((8:Nat)) [] Own.no],AV.int IntKind.i64 rc],[])) ∧
 (decide (pn < (1:Int)) = false →
 (decide (pn > nx) = true →
 RetLax (AV.tup [AV.agg [AV.str [],AV.int IntKind.i64 (0:Int),AV.sl ((0:Nat)) [] Own.nil],AV.int IntKind.i64 (1:Int)])
 (AV.tup [AV.agg [AV.str rn,AV.int IntKind.i64 rx,AV.sl ((8:Nat)) [] Own.no],AV.int IntKind.i64 rc],[])) ∧
 (decide (pn > nx) = false →
 True ∧
 True ∧
 RetLax (AV.tup [AV.agg [AV.str nm,AV.int IntKind.i64 nx,AV.sl ((8:Nat)) [] Own.full],AV.int IntKind.i64 (0:Int)])
 (AV.tup [AV.agg [AV.str rn,AV.int IntKind.i64 rx,AV.sl ((8:Nat)) [] Own.no],AV.int IntKind.i64 rc],[]))))) ∧
  (ack = false →
    RetLax (AV.tup [AV.agg [AV.str [],AV.int IntKind.i64 (0:Int),AV.sl ((0:Nat)) [] Own.nil],AV.int IntKind.i64 (1:Int)])
      (AV.tup [AV.agg [AV.str rn,AV.int IntKind.i64 rx,AV.sl ((8:Nat)) [] Own.no],AV.int IntKind.i64 rc],[]))):=by kernel_rfl
theorem w21 (m:Int) (nm:List UInt8) (nx:Int) (g:FcI) (f:FcI) (l:List FcI) (rn:List UInt8) (rx rc:Int) (rl:List FcI) (p:PkI):(laxW PI (GI m) XK (tbl [(36,s44p),(37,s45)]) (itbl []) nAn [] 13 [.agg (sdC nm nx 8 (fcA f :: fcsL l)),.agg (fcC g)] (.tup [.agg (sdC rn rx 8 (fcsL rl)),pkA p,.int .i64 rc],[])) =
((decide (nx > (1099511627776:Int)) = true →
    RetLax
      (AV.tup
        [AV.agg [AV.str [],AV.int IntKind.i64 (0:Int),AV.sl ((0:Nat)) [] Own.nil],
 AV.agg
 [AV.str [],AV.bool false,AV.int IntKind.i64 (0:Int),AV.str [],AV.int IntKind.i64 (0:Int),AV.int IntKind.i64 (0:Int),
 AV.int IntKind.i64 (0:Int),AV.str [],AV.str [],AV.int IntKind.i64 (0:Int),AV.sl ((0:Nat)) [] Own.nil],
 AV.int IntKind.i64 (2:Int)])
      (AV.tup
 [AV.agg [AV.str rn,AV.int IntKind.i64 rx,AV.sl ((8:Nat)) (fcsL rl) Own.no],
 AV.agg
 [AV.str p.src,AV.bool p.ack,AV.int IntKind.i64 p.next,AV.str p.f.src,AV.int IntKind.i64 p.f.seq,AV.int IntKind.i64 p.f.kind,
 AV.int IntKind.i64 p.f.ref,AV.str p.f.table,AV.str p.f.key,AV.int IntKind.i64 p.f.event,AV.sl ((3:Nat)) (vasL p.f.fs) Own.no],
 AV.int IntKind.i64 rc],
        [])) ∧
  (decide (nx > (1099511627776:Int)) = false →
    (decide
 ((↑(AV.agg
 [AV.str f.src,AV.int IntKind.i64 f.seq,AV.int IntKind.i64 f.kind,AV.int IntKind.i64 f.ref,AV.str f.table,AV.str f.key,
 AV.int IntKind.i64 f.event,AV.sl ((3:Nat)) (vasL f.fs) Own.no] ::
 fcsL l).length :
 Int) ≥
 (64:Int)) =
 true →
        RetLax
 (AV.tup
 [AV.agg [AV.str [],AV.int IntKind.i64 (0:Int),AV.sl ((0:Nat)) [] Own.nil],
 AV.agg
 [AV.str [],AV.bool false,AV.int IntKind.i64 (0:Int),AV.str [],AV.int IntKind.i64 (0:Int),AV.int IntKind.i64 (0:Int),
 AV.int IntKind.i64 (0:Int),AV.str [],AV.str [],AV.int IntKind.i64 (0:Int),AV.sl ((0:Nat)) [] Own.nil],
 AV.int IntKind.i64 (410:Int)])
 (AV.tup
 [AV.agg [AV.str rn,AV.int IntKind.i64 rx,AV.sl ((8:Nat)) (fcsL rl) Own.no],
 AV.agg
 [AV.str p.src,AV.bool p.ack,AV.int IntKind.i64 p.next,AV.str p.f.src,AV.int IntKind.i64 p.f.seq,AV.int IntKind.i64 p.f.kind,
 AV.int IntKind.i64 p.f.ref,AV.str p.f.table,AV.str p.f.key,AV.int IntKind.i64 p.f.event,AV.sl ((3:Nat)) (vasL p.f.fs) Own.no],
 AV.int IntKind.i64 rc],
 [])) ∧
      (decide
 ((↑(AV.agg
 [AV.str f.src,AV.int IntKind.i64 f.seq,AV.int IntKind.i64 f.kind,AV.int IntKind.i64 f.ref,AV.str f.table,AV.str f.key,
 AV.int IntKind.i64 f.event,AV.sl ((3:Nat)) (vasL f.fs) Own.no] ::
 fcsL l).length :
 Int) ≥
 (64:Int)) =
 false →
        ∃ (es:List AV),
 CallIs
 (tbl [((36:Nat),s44p),((37:Nat),s45)] ((36:Nat))
 [AV.sl ((8:Nat))
 (AV.agg
 [AV.str f.src,AV.int IntKind.i64 f.seq,AV.int IntKind.i64 f.kind,AV.int IntKind.i64 f.ref,AV.str f.table,AV.str f.key,
 AV.int IntKind.i64 f.event,AV.sl ((3:Nat)) (vasL f.fs) Own.no] ::
 fcsL l)
 Own.no])
 (AV.sl ((8:Nat)) es (Own.tok ((0:Nat)))) [(es.length,(29:Nat))] ∧
 ((8:Nat) = (8:Nat)∨es = []) ∧
 (es.length + (1:Nat)) * (105:Nat)≤(70368744177664:Nat) ∧
 es.length = es.length ∧
 ∃ (s:List UInt8),
 ∃ (b:Bool),
 ∃ (n:Int),
 ∃ (s_1:List UInt8),
 ∃ (n_1:Int),
 ∃ (n_2:Int),
 ∃ (n_3:Int),
 ∃ (s_2:List UInt8),
 ∃ (s_3:List UInt8),
 ∃ (n_4:Int),
 ∃ (es_1:List AV),
 CallIs
 (some
 (AV.agg
 [AV.str nm,AV.bool false,AV.int IntKind.i64 (0:Int),AV.str nm,AV.int IntKind.i64 nx,
 AV.int IntKind.i64 g.kind,AV.int IntKind.i64 g.ref,AV.str g.table,AV.str g.key,
 AV.int IntKind.i64 g.event,AV.sl ((3:Nat)) (vasL g.fs) Own.no],
 []))
 (AV.agg
 [AV.str s,AV.bool b,AV.int IntKind.i64 n,AV.str s_1,AV.int IntKind.i64 n_1,AV.int IntKind.i64 n_2,
 AV.int IntKind.i64 n_3,AV.str s_2,AV.str s_3,AV.int IntKind.i64 n_4,AV.sl ((3:Nat)) es_1 Own.no])
 [] ∧
 RetLax
 (AV.tup
 [AV.agg
 [AV.str nm,AV.int IntKind.i64 (IntKind.i64.wrap (nx + (1:Int))),
 AV.sl ((8:Nat))
 (es ++
 [AV.agg
 [AV.str nm,AV.int IntKind.i64 nx,AV.int IntKind.i64 g.kind,AV.int IntKind.i64 g.ref,
 AV.str g.table,AV.str g.key,AV.int IntKind.i64 g.event,AV.sl ((3:Nat)) (vasL g.fs) Own.no]])
 (Own.tok ((0:Nat)))],
 AV.agg
 [AV.str s,AV.bool b,AV.int IntKind.i64 n,AV.str s_1,AV.int IntKind.i64 n_1,AV.int IntKind.i64 n_2,
 AV.int IntKind.i64 n_3,AV.str s_2,AV.str s_3,AV.int IntKind.i64 n_4,AV.sl ((3:Nat)) es_1 Own.no],
 AV.int IntKind.i64 (0:Int)])
 (AV.tup
 [AV.agg [AV.str rn,AV.int IntKind.i64 rx,AV.sl ((8:Nat)) (fcsL rl) Own.no],
 AV.agg
 [AV.str p.src,AV.bool p.ack,AV.int IntKind.i64 p.next,AV.str p.f.src,AV.int IntKind.i64 p.f.seq,
 AV.int IntKind.i64 p.f.kind,AV.int IntKind.i64 p.f.ref,AV.str p.f.table,AV.str p.f.key,
 AV.int IntKind.i64 p.f.event,AV.sl ((3:Nat)) (vasL p.f.fs) Own.no],
 AV.int IntKind.i64 rc],
 [])))):=by kernel_rfl
theorem w21e (m:Int) (sz:Nat) (nm:List UInt8) (nx:Int) (g:FcI) (rn:List UInt8) (rx rc:Int) (rl:List FcI) (p:PkI):(laxW PI (GI m) XZ (tbl [(36,s44z),(37,s45)]) (itbl []) nAn [] 13 [.agg (sdC nm nx sz []),.agg (fcC g)] (.tup [.agg (sdC rn rx 8 (fcsL rl)),pkA p,.int .i64 rc],[])) =
((decide (nx > (1099511627776:Int)) = true →
    RetLax
      (AV.tup
        [AV.agg [AV.str [],AV.int IntKind.i64 (0:Int),AV.sl ((0:Nat)) [] Own.nil],
 AV.agg
 [AV.str [],AV.bool false,AV.int IntKind.i64 (0:Int),AV.str [],AV.int IntKind.i64 (0:Int),AV.int IntKind.i64 (0:Int),
 AV.int IntKind.i64 (0:Int),AV.str [],AV.str [],AV.int IntKind.i64 (0:Int),AV.sl ((0:Nat)) [] Own.nil],
 AV.int IntKind.i64 (2:Int)])
      (AV.tup
 [AV.agg [AV.str rn,AV.int IntKind.i64 rx,AV.sl ((8:Nat)) (fcsL rl) Own.no],
 AV.agg
 [AV.str p.src,AV.bool p.ack,AV.int IntKind.i64 p.next,AV.str p.f.src,AV.int IntKind.i64 p.f.seq,AV.int IntKind.i64 p.f.kind,
 AV.int IntKind.i64 p.f.ref,AV.str p.f.table,AV.str p.f.key,AV.int IntKind.i64 p.f.event,AV.sl ((3:Nat)) (vasL p.f.fs) Own.no],
 AV.int IntKind.i64 rc],
        [])) ∧
  (decide (nx > (1099511627776:Int)) = false →
    (false = true →
        RetLax
 (AV.tup
 [AV.agg [AV.str [],AV.int IntKind.i64 (0:Int),AV.sl ((0:Nat)) [] Own.nil],
 AV.agg
 [AV.str [],AV.bool false,AV.int IntKind.i64 (0:Int),AV.str [],AV.int IntKind.i64 (0:Int),AV.int IntKind.i64 (0:Int),
 AV.int IntKind.i64 (0:Int),AV.str [],AV.str [],AV.int IntKind.i64 (0:Int),AV.sl ((0:Nat)) [] Own.nil],
 AV.int IntKind.i64 (410:Int)])
 (AV.tup
 [AV.agg [AV.str rn,AV.int IntKind.i64 rx,AV.sl ((8:Nat)) (fcsL rl) Own.no],
 AV.agg
 [AV.str p.src,AV.bool p.ack,AV.int IntKind.i64 p.next,AV.str p.f.src,AV.int IntKind.i64 p.f.seq,AV.int IntKind.i64 p.f.kind,
 AV.int IntKind.i64 p.f.ref,AV.str p.f.table,AV.str p.f.key,AV.int IntKind.i64 p.f.event,AV.sl ((3:Nat)) (vasL p.f.fs) Own.no],
 AV.int IntKind.i64 rc],
 [])) ∧
      (false = false →
        ∃ (es:List AV),
 CallIs (some (AV.sl ((8:Nat)) [] Own.full,[])) (AV.sl ((8:Nat)) es Own.full) [] ∧
 ((8:Nat) = (8:Nat)∨es = []) ∧
 (es.length + (1:Nat)) * (105:Nat)≤(70368744177664:Nat) ∧
 ∃ (s:List UInt8),
 ∃ (b:Bool),
 ∃ (n:Int),
 ∃ (s_1:List UInt8),
 ∃ (n_1:Int),
 ∃ (n_2:Int),
 ∃ (n_3:Int),
 ∃ (s_2:List UInt8),
 ∃ (s_3:List UInt8),
 ∃ (n_4:Int),
 ∃ (es_1:List AV),
 CallIs
 (some
 (AV.agg
 [AV.str nm,AV.bool false,AV.int IntKind.i64 (0:Int),AV.str nm,AV.int IntKind.i64 nx,
 AV.int IntKind.i64 g.kind,AV.int IntKind.i64 g.ref,AV.str g.table,AV.str g.key,AV.int IntKind.i64 g.event,
 AV.sl ((3:Nat)) (vasL g.fs) Own.no],
 []))
 (AV.agg
 [AV.str s,AV.bool b,AV.int IntKind.i64 n,AV.str s_1,AV.int IntKind.i64 n_1,AV.int IntKind.i64 n_2,
 AV.int IntKind.i64 n_3,AV.str s_2,AV.str s_3,AV.int IntKind.i64 n_4,AV.sl ((3:Nat)) es_1 Own.no])
 [] ∧
 RetLax
 (AV.tup
 [AV.agg
 [AV.str nm,AV.int IntKind.i64 (IntKind.i64.wrap (nx + (1:Int))),
 AV.sl ((8:Nat))
 (es ++
 [AV.agg
 [AV.str nm,AV.int IntKind.i64 nx,AV.int IntKind.i64 g.kind,AV.int IntKind.i64 g.ref,
 AV.str g.table,AV.str g.key,AV.int IntKind.i64 g.event,AV.sl ((3:Nat)) (vasL g.fs) Own.no]])
 (Own.tok ((0:Nat)))],
 AV.agg
 [AV.str s,AV.bool b,AV.int IntKind.i64 n,AV.str s_1,AV.int IntKind.i64 n_1,AV.int IntKind.i64 n_2,
 AV.int IntKind.i64 n_3,AV.str s_2,AV.str s_3,AV.int IntKind.i64 n_4,AV.sl ((3:Nat)) es_1 Own.no],
 AV.int IntKind.i64 (0:Int)])
 (AV.tup
 [AV.agg [AV.str rn,AV.int IntKind.i64 rx,AV.sl ((8:Nat)) (fcsL rl) Own.no],
 AV.agg
 [AV.str p.src,AV.bool p.ack,AV.int IntKind.i64 p.next,AV.str p.f.src,AV.int IntKind.i64 p.f.seq,
 AV.int IntKind.i64 p.f.kind,AV.int IntKind.i64 p.f.ref,AV.str p.f.table,AV.str p.f.key,
 AV.int IntKind.i64 p.f.event,AV.sl ((3:Nat)) (vasL p.f.fs) Own.no],
 AV.int IntKind.i64 rc],
 [])))):=by kernel_rfl
end Go.Abs
namespace Go.Abs
open Go.Proofs Go.RowKit
theorem agg33:aggA PI 29 = some true:=by kernel_rfl
theorem size33:sizeA PI 29 = some 8:=by kernel_rfl
theorem agg35:aggA PI 31 = some true:=by kernel_rfl
theorem size35:sizeA PI 31 = some 11:=by kernel_rfl
theorem take_pk {l:List PkI} {i:Nat} (h:i < l.length):takeAt PI 31 (pksL l) i 0 = some (pkA l[i]):=by
 simp only [takeAt,List.getElem?_map,List.getElem?_eq_getElem h,Option.map_some,takeA,agg35,size35]
 rfl
theorem unV_ok (v:VaI):unV (vaA v) = some v:=rfl
theorem lax_of' {P:Program} {G:Glob} (hm:P.follows .mixedOrders = true) {m:List Bool} {f:FuncId} {s:Spec}
  (h:∀ args r,s args = some r→∃ X R C A,CalleeOk P G R∧ICalleeOk P G (lowC C)∧LaxOk P G X R C A m f args r):SpecOk P G f s:=by
 intro g args r lv hr
 by_cases e:g = f
 ·subst e
  simp only [if_true] at hr
  obtain ⟨X,R,C,A,hR,hC,hA⟩:=h args _ hr
  classical
  have key:SpecOk P G g (fun a=>if a = args then some (r,lv) else none):=lax_of (X:=X) (m:=m) hm hR hC fun a r' h'=>by
   split at h'
   ·rename_i ea
    injection h' with h'
    subst ea; subst h'
    exact ⟨A,hA⟩
   ·cases h'
  exact key g args r lv (by simp)
 ·simp only [if_neg e] at hr
  cases hr
theorem ispec_of' {P:Program} {G:Glob} (hm:P.follows .mixedOrders = true) {m:List Bool} {f:FuncId} {s:ISpec}
  (h:∀ args S p r,s args S = some (p,r)→p→∃ X R C A,CalleeOk P G R∧ICalleeOk P G (lowC C)∧OpenOk P G X R C A m f args S r):ISpecOk P G f s:=by
 intro g args S r S' hr
 simp only [lowC] at hr
 by_cases e:g = f
 ·subst e
  simp only [if_true] at hr
  split at hr
  case h_2=>cases hr
  rename_i x hx
  split at hr
  case isFalse=>cases hr
  rename_i hp
  injection hr with hr
  obtain ⟨X,R,C,A,hR,hC,hA⟩:=h args S x.1 x.2 hx hp
  classical
  have key:ISpecOk P G g (fun a T=>if a = args∧T = S then some (True,x.2) else none):=ispec_of (X:=X) (m:=m) hm hR hC fun a T p r' h' _=>by
   split at h'
   ·rename_i ea
    injection h' with h'
    obtain ⟨rfl,rfl⟩:=ea
    injection h' with h1 h2
    subst h2
    exact ⟨A,hA⟩
   ·cases h'
  refine key g args S r S' ?_
  simp only [lowC,and_self,if_true,hr]
 ·simp only [if_neg e] at hr
  cases hr
theorem unG_ok (f:FcI):unG (fcA f) = some f:=by
 unfold fcA unG
 simp only [if_true]
 rw [show unL unV (vasL f.fs) = some f.fs from unL_map unV_ok f.fs]
 rfl
theorem unG_inv (a:AV) (x:FcI) (h:unG a = some x):a = fcA x:=by
 unfold unG at h
 split at h
 ·rename_i src seq kind ref table key event sz es
  split at h
  ·rename_i hz
   subst hz
   cases hu:unL unV es with
   | none=>rw [hu] at h; cases h
   | some fs =>
    rw [hu] at h
    injection h with h; subst h
    rw [unL_inv unV_inv hu]
    rfl
  ·cases h
 ·cases h
theorem unGs_inv {es:List AV} {l:List FcI} (h:unL unG es = some l):es = fcsL l:=unL_inv unG_inv h
theorem unGs_ok (l:List FcI):unL unG (fcsL l) = some l:=unL_map unG_ok l
theorem take_f {l:List FcI} {i:Nat} (h:i < l.length):takeAt PI 29 (fcsL l) i 0 = some (fcA l[i]):=by
 simp only [takeAt,List.getElem?_map,List.getElem?_eq_getElem h,Option.map_some,takeA,agg33,size33]
 rfl
theorem keptOpen_fc (n:Int) (l:List FcI):keptOpen n (fcsL l) = fcsL (l.filter (keepF n)):=by
 unfold keptOpen
 rw [List.filter_map]
 rfl
theorem keptIdx_none {n:Int} {l:List FcI} (h:l.all (keepF n) = true):keptIdx n (fcsL l) = -1:=by
 unfold keptIdx
 rw [if_pos]
 rw [List.all_map]; exact h
theorem keptIdx_at {n:Int} {l:List FcI} {i:Nat} (hi:i < l.length) (h:(l.take i).all (keepF n) = true) (h2:keepF n l[i] = false):keptIdx n (fcsL l) = i:=by
 unfold keptIdx
 have hne:¬ (fcsL l).all (fun e=>!decide (seqOf e < n)) = true:=fun hf=>by
  rw [List.all_map] at hf
  have:=List.all_eq_true.1 hf _ (List.getElem_mem hi)
  rw [show ((fun e=>!decide (seqOf e < n)) ∘ fcA) l[i] = keepF n l[i] from rfl,h2] at this
  cases this
 rw [if_neg hne,List.takeWhile_map,List.length_map]
 congr 1
 have e:l = l.take i ++ l[i] :: l.drop (i + 1):=by rw [← List.drop_eq_getElem_cons hi,List.take_append_drop]
 have:(l.takeWhile (keepF n)).length = i:=by
  conv=>lhs; rw [e]
  rw [List.takeWhile_append_of_pos (fun a ha=>List.all_eq_true.1 h a ha),List.takeWhile_cons_of_neg (by rw [h2]; simp)]
  simp; omega
 exact this
theorem keptIdx_cases (n:Int) (l:List FcI):(keptIdx n (fcsL l) = -1∧l.all (keepF n) = true)∨∃ i:Nat,∃ h:i < l.length,keptIdx n (fcsL l) = i∧(l.take i).all (keepF n) = true∧keepF n l[i] = false:=by
 by_cases h:l.all (keepF n) = true
 ·exact .inl ⟨keptIdx_none h,h⟩
 ·right
  have hlen:(l.takeWhile (keepF n)).length < l.length:=by
   rcases Nat.lt_or_ge (l.takeWhile (keepF n)).length l.length with h' | h'
   ·exact h'
   ·have:=(List.takeWhile_prefix (keepF n) (l:=l)).eq_of_length_le h'
    exact absurd (by rw [← this]; exact List.all_takeWhile) h
  have h1:(l.take (l.takeWhile (keepF n)).length).all (keepF n) = true:=by
   rw [← List.prefix_iff_eq_take.1 (List.takeWhile_prefix (keepF n) (l:=l))]
   exact List.all_takeWhile
  have h2:keepF n l[(l.takeWhile (keepF n)).length] = false:=by
   have hd:l = l.takeWhile (keepF n) ++ l.dropWhile (keepF n):=List.takeWhile_append_dropWhile.symm
   have hdl:0 < (l.dropWhile (keepF n)).length:=by
    have:=congrArg List.length hd
    rw [List.length_append] at this; omega
   have:=List.head_dropWhile_not (p:=keepF n) (l:=l) (by intro e; rw [e] at hdl; simp at hdl)
   have e2:∀ k,k = (l.takeWhile (keepF n)).length→l[k]? = some ((l.dropWhile (keepF n)).head (by intro e; rw [e] at hdl; simp at hdl)):=by
    intro k hk
    have:l[k]? = (l.takeWhile (keepF n) ++ l.dropWhile (keepF n))[k]?:=congrArg (·[k]?) hd
    rw [this,List.getElem?_append_right (by omega),hk,Nat.sub_self,← List.head?_eq_getElem?,List.head?_eq_some_head]
   have e2:=e2 _ rfl
   rw [List.getElem?_eq_getElem hlen] at e2
   injection e2 with e2
   rw [e2]; exact this
  exact ⟨_,hlen,keptIdx_at hlen h1 h2,h1,h2⟩
theorem o47 (m:Int):ISpecOk PI (GI m) 40 s47:=ispec_of' (m:=[]) mixedI fun args S p r h hp=>by
 unfold s47 at h
 split at h
 case h_3=>cases h
 case h_1 =>
  split at h
  case isFalse=>cases h
  rename_i hc
  obtain ⟨rfl,rfl,rfl,rfl,rfl,ha,rfl,rfl,rfl,rfl⟩:=hc
  have ha:=List.isEmpty_iff.1 ha
  subst ha
  injection h with h
  injection h with _ h; subst h
  exact ⟨XK,tbl [],itbl [],nAn,tbl_nil,itbl_nil,⟨by rw [w47]; exact ⟨fun h=>⟨rfl,by rw [h]⟩,fun h=>⟨rfl,by rw [h]⟩⟩⟩⟩
 case h_2 =>
  split at h
  case isFalse=>cases h
  rename_i hc
  obtain ⟨rfl,rfl,rfl,rfl,rfl,rfl,ha,rfl,rfl,rfl,rfl⟩:=hc
  have ha:=List.isEmpty_iff.1 ha
  subst ha
  injection h with h
  injection h with _ h; subst h
  exact ⟨XK,tbl [],itbl [],nAn,tbl_nil,itbl_nil,⟨by rw [w47f]; exact ⟨fun h=>⟨rfl,by rw [h]⟩,fun h=>⟨rfl,by rw [h]⟩⟩⟩⟩
theorem p62 (m:Int) (nm src fsrc tab key:List UInt8) (nx pn seq kind ref ev:Int) (ack:Bool) (l1 fs:List AV) (l:List FcI) (hl:l.length≤2000000) :
  OpenOk PI (GI m) XK (tbl []) (itbl [(40,s47)]) (a62 nm nx l1 (pkD src ack pn fsrc seq kind ref tab key ev fs) pn l) [] 62 [.ms 3 8 l.length,.fn 40 [.ptr 1 0]] (S4 nm nx l1 (pkD src ack pn fsrc seq kind ref tab key ev fs) l) (.int .i64 (keptIdx pn (fcsL l)),S4 nm nx l1 (pkD src ack pn fsrc seq kind ref tab key ev fs) l):=by
 constructor
 rw [w62]
 refine ⟨⟨0,⟨rfl⟩,⟨rfl⟩,⟨Nat.zero_le _,rfl⟩,trivial⟩,fun x hx=>⟨fun hlt=>?_,fun hge=>?_⟩⟩
 ·have hlt:=of_decide_eq_true hlt
  have hil:x < l.length:=by omega
  refine ⟨⟨by omega,hlt⟩,_,_,_,_,_,_,_,_,by rw [Int.toNat_natCast]; exact take_f hil,trivial,fun hs=>⟨rfl,?_⟩,fun hs=>⟨x + 1,⟨by rw [wrapN (by omega)]⟩,⟨rfl⟩,⟨hil,?_⟩,by omega⟩⟩
  ·rw [keptIdx_at hil hx.2 (by simp only [keepF]; rw [hs]; rfl)]
  ·rw [List.take_succ_eq_append_getElem hil,List.all_append,hx.2]
   simp only [List.all_cons,List.all_nil,Bool.and_true,Bool.true_and,keepF]
   rw [hs]; rfl
 ·have hge:=of_decide_eq_false hge
  refine ⟨rfl,?_⟩
  rw [keptIdx_none]
  have:=hx.2
  rwa [List.take_of_length_le (by omega)] at this
theorem p62e (m:Int) (z1:Nat) (nm src fsrc tab key:List UInt8) (nx pn seq kind ref ev:Int) (ack:Bool) (l1 fs:List AV) :
  OpenOk PI (GI m) XK (tbl []) (itbl [(40,s47)]) (a62e nm nx z1 l1 (pkD src ack pn fsrc seq kind ref tab key ev fs)) [] 62 [.sl 8 [] .full,.fn 40 [.ptr 1 0]] (S3 nm nx z1 l1 (pkD src ack pn fsrc seq kind ref tab key ev fs)) (.int .i64 (-1),S3 nm nx z1 l1 (pkD src ack pn fsrc seq kind ref tab key ev fs)):=by
 constructor
 rw [w62e]
 exact ⟨⟨(),⟨rfl⟩,⟨rfl⟩,trivial,trivial⟩,fun _ _=>⟨fun h=>(by cases h),fun _=>⟨rfl,rfl⟩⟩⟩
theorem o62 (m:Int):ISpecOk PI (GI m) 62 s62:=ispec_of' (m:=[]) mixedI fun args S p r h hp=>by
 unfold s62 at h
 split at h
 case h_3=>cases h
 case h_1 =>
  split at h
  case isFalse=>cases h
  rename_i hc
  obtain ⟨rfl,rfl,rfl,rfl,rfl,rfl,rfl,ha,rfl,rfl,rfl,rfl⟩:=hc
  have ha:=List.isEmpty_iff.1 ha
  subst ha
  injection h with h
  injection h with h1 h; subst h1 h
  obtain ⟨⟨l,rfl⟩,rfl,hl⟩:=hp
  rw [List.length_map] at hl ⊢
  exact ⟨XK,_,_,_,tbl_nil,itbl_cons (o47 m) itbl_nil,p62 m _ _ _ _ _ _ _ _ _ _ _ _ _ _ l hl⟩
 case h_2 =>
  split at h
  case isFalse=>cases h
  rename_i hc
  obtain ⟨rfl,rfl,rfl,rfl,rfl,ha,rfl,rfl⟩:=hc
  have ha:=List.isEmpty_iff.1 ha
  subst ha
  injection h with h
  injection h with _ h; subst h
  exact ⟨XK,_,_,_,tbl_nil,itbl_cons (o47 m) itbl_nil,p62e m _ _ _ _ _ _ _ _ _ _ _ _ _ _ _⟩
theorem p46 (m:Int) (nm src fsrc tab key:List UInt8) (nx pn seq kind ref ev:Int) (ack:Bool) (l1 fs:List AV) (l:List FcI) (hl:l.length≤2000000) :
  OpenOk PI (GI m) XK (tbl []) (itbl [(40,s47),(62,s62)]) (a46 nm nx l1 (pkD src ack pn fsrc seq kind ref tab key ev fs) pn l) [] 39 [.ms 3 8 l.length,.fn 40 [.ptr 1 0]] (S4 nm nx l1 (pkD src ack pn fsrc seq kind ref tab key ev fs) l) (.ms 3 8 (keptOpen pn (fcsL l)).length,⟨[some (sdC nm nx 8 l1),some (pkD src ack pn fsrc seq kind ref tab key ev fs),some sdZ,some (ownC 8 (keptOpen pn (fcsL l)))],[]⟩):=by
 constructor
 rw [w46]
 rcases keptIdx_cases pn l with ⟨hi,hall⟩ | ⟨i,hil,hi,hpre,hat⟩
 ·rw [hi]
  have hf:l.filter (keepF pn) = l:=List.filter_eq_self.2 fun a ha=>List.all_eq_true.1 hall a ha
  refine ⟨⟨⟨l,rfl⟩,(List.length_map ..).symm,by rw [List.length_map]; exact hl⟩,fun _=>⟨rfl,?_⟩,fun h=>(by cases h)⟩
  rw [keptOpen_fc,hf,List.length_map]
 ·rw [hi]
  have hpf:(l.take i).filter (keepF pn) = l.take i:=List.filter_eq_self.2 fun a ha=>List.all_eq_true.1 hpre a ha
  refine ⟨⟨⟨l,rfl⟩,(List.length_map ..).symm,by rw [List.length_map]; exact hl⟩,fun h=>(by simp at h),fun _=>⟨⟨⟨i,i + 1,l⟩,⟨by rw [wrapN (by omega)]⟩,⟨rfl⟩,⟨Nat.lt_succ_self _,hil,rfl,?_,rfl⟩,trivial⟩,fun x hx=>⟨fun hlt=>?_,fun hge=>?_⟩⟩⟩
  ·rw [List.take_succ_eq_append_getElem hil,List.filter_append,hpf,List.filter_cons_of_neg (by rw [hat]; simp)]
   simp
  ·obtain ⟨j,i,cur⟩:=x
   simp only at hx hlt ⊢
   obtain ⟨hji,hil2,hcl,hpre,hsuf⟩:=hx
   have hlt:=of_decide_eq_true hlt
   have hi:i < l.length:=by omega
   have hic:i < cur.length:=by omega
   have hei:cur[i] = l[i]:=by
    have:=congrArg (·[0]?) hsuf
    simp only [List.getElem?_drop,Nat.add_zero] at this
    rw [List.getElem?_eq_getElem hi,List.getElem?_eq_getElem hic] at this
    injection this
   have hdrop:cur.drop (i + 1) = l.drop (i + 1):=by
    have:=congrArg (·.drop 1) hsuf
    simpa [List.drop_drop,Nat.add_comm] using this
   have htk:(l.take (i + 1)).filter (keepF pn) = (l.take i).filter (keepF pn) ++ (if keepF pn l[i] then [l[i]] else []):=by
    rw [List.take_succ_eq_append_getElem hi,List.filter_append]
    congr 1
    by_cases h:keepF pn l[i] = true
    ·rw [if_pos h,List.filter_cons_of_pos h]; rfl
    ·rw [if_neg h,List.filter_cons_of_neg h]; rfl
   refine ⟨⟨by omega,hlt⟩,_,_,_,_,_,_,_,_,by rw [Int.toNat_natCast]; exact take_f hic,trivial,fun hs=>⟨⟨j,i + 1,cur⟩,⟨by rw [wrapN (by omega)]⟩,⟨rfl⟩,⟨by show j < i + 1; omega,hi,hcl,?_,hdrop⟩,by show l.length - (i + 1) < l.length - i; omega⟩,fun hs=>?_⟩
   ·rw [hei] at hs
    show cur.take j = _
    rw [htk,if_neg (by simp only [keepF]; rw [hs]; simp),List.append_nil]; exact hpre
   ·refine ⟨⟨by omega,by omega⟩,by rw [List.length_map,Int.toNat_natCast]; omega,⟨j + 1,i + 1,cur.set j l[i]⟩,⟨by rw [wrapN (by omega),wrapN (by omega)]⟩,⟨?_⟩,⟨by show j + 1 < i + 1; omega,hi,by show (cur.set j l[i]).length = _; rw [List.length_set]; exact hcl,?_,?_⟩,by show l.length - (i + 1) < l.length - i; omega⟩
    ·rw [Int.toNat_natCast]
     have hg:(fcsL cur).getD j .junk = fcA (cur[j]'(by omega)):=by
      rw [List.getD_eq_getElem?_getD,List.getElem?_map,List.getElem?_eq_getElem (by omega)]; rfl
     rw [hg]
     have e:(fcsL cur).set j (fcA cur[i]) = fcsL (cur.set j l[i]):=by rw [hei]; exact List.map_set.symm
     exact congrArg (fun y=>({ boxes:=[some (sdC nm nx 8 l1),some (pkD src ack pn fsrc seq kind ref tab key ev fs),some sdZ,some (ownC 8 y)],live:=[] }:St)) e
    ·rw [hei] at hs
     show (cur.set j l[i]).take (j + 1) = _
     rw [htk,if_pos (by simp only [keepF]; rw [hs]; rfl),← hpre]
     have hj:j < (cur.set j l[i]).length:=by rw [List.length_set]; omega
     rw [List.take_succ_eq_append_getElem hj,List.take_set_of_le (Nat.le_refl _),List.getElem_set_self]
    ·show (cur.set j l[i]).drop (i + 1) = _
     rw [List.drop_set_of_lt (by omega)]; exact hdrop
  ·obtain ⟨j,i,cur⟩:=x
   simp only at hx hge ⊢
   obtain ⟨hji,hil2,hcl,hpre,hsuf⟩:=hx
   have hge:=of_decide_eq_false hge
   obtain rfl:i = l.length:=by omega
   rw [List.take_of_length_le (Nat.le_refl _)] at hpre
   rw [Int.toNat_natCast,List.length_map,keptOpen_fc,List.length_map]
   have hjl:j = (l.filter (keepF pn)).length:=by
    rw [← hpre,List.length_take]; omega
   refine ⟨by omega,trivial,⟨by omega,Nat.le_refl _⟩,trivial,by omega,by omega,trivial,⟨Nat.zero_le _,by omega⟩,rfl,?_⟩
   rw [← List.map_take,hpre,← hjl]
theorem p46e (m:Int) (z1:Nat) (nm src fsrc tab key:List UInt8) (nx pn seq kind ref ev:Int) (ack:Bool) (l1 fs:List AV) :
  OpenOk PI (GI m) XK (tbl []) (itbl [(40,s47),(62,s62)]) nAn [] 39 [.sl 8 [] .full,.fn 40 [.ptr 1 0]] (S3 nm nx z1 l1 (pkD src ack pn fsrc seq kind ref tab key ev fs)) (.sl 8 [] .full,S3 nm nx z1 l1 (pkD src ack pn fsrc seq kind ref tab key ev fs)):=by
 constructor
 rw [w46e]
 exact ⟨trivial,fun _=>⟨rfl,rfl⟩,fun h=>(by cases h)⟩
theorem o46 (m:Int):ISpecOk PI (GI m) 39 s46:=ispec_of' (m:=[]) mixedI fun args S p r h hp=>by
 have hC:=itbl_cons (o47 m) (itbl_cons (o62 m) itbl_nil)
 unfold s46 at h
 split at h
 case h_3=>cases h
 case h_1 =>
  split at h
  case isFalse=>cases h
  rename_i hc
  obtain ⟨rfl,rfl,rfl,rfl,rfl,rfl,rfl,ha,rfl,rfl,rfl,rfl⟩:=hc
  have ha:=List.isEmpty_iff.1 ha
  subst ha
  injection h with h
  injection h with h1 h; subst h1 h
  obtain ⟨⟨l,rfl⟩,rfl,hl⟩:=hp
  rw [List.length_map] at hl
  have:=p46 m
  rw [show (fcsL l).length = l.length from List.length_map ..]
  exact ⟨XK,_,_,_,tbl_nil,hC,p46 m _ _ _ _ _ _ _ _ _ _ _ _ _ _ l hl⟩
 case h_2 =>
  split at h
  case isFalse=>cases h
  rename_i hc
  obtain ⟨rfl,rfl,rfl,rfl,rfl,ha,rfl,rfl⟩:=hc
  have ha:=List.isEmpty_iff.1 ha
  subst ha
  injection h with h
  injection h with _ h; subst h
  exact ⟨XK,_,_,_,tbl_nil,hC,p46e m _ _ _ _ _ _ _ _ _ _ _ _ _ _ _⟩
theorem o45 (m:Int):SpecOk PI (GI m) 37 s45:=spec_of (X:=XK) (m:=[]) mixedI tbl_nil itbl_nil fun args r h=>by
 unfold s45 at h
 split at h
 case h_2=>cases h
 split at h
 case isFalse=>cases h
 rename_i hz
 subst hz
 injection h with h; subst h
 exact ⟨nAn,⟨by rw [w45]; exact ⟨rfl⟩⟩⟩
theorem o44p (m:Int):SpecOk PI (GI m) 36 s44p:=spec_of (X:=XK) (m:=[]) mixedI tbl_nil itbl_nil fun args r h=>by
 unfold s44p at h
 split at h
 case h_2=>cases h
 rename_i sz x es
 split at h
 case isFalse=>cases h
 rename_i hz
 obtain ⟨rfl,hz⟩:=hz
 injection h with h; subst h
 refine ⟨nAn,⟨?_⟩⟩
 rw [w44]
 simp only [List.length_cons]
 exact ⟨rfl,.inr trivial,by omega,fun h=>(by cases h),fun _=>⟨by omega,⟨by simp⟩⟩⟩
theorem o44z (m:Int):SpecOk PI (GI m) 36 s44z:=by
 intro g args r lv h E w vs hI hG hn' hv hcl
 simp only at h
 split at h
 case isFalse=>cases h
 case isTrue e =>
 subst e
 unfold s44z at h
 split at h
 case h_2=>cases h
 case h_1 sz o =>
 simp only [Option.some.injEq,Prod.mk.injEq] at h
 obtain ⟨rfl,rfl⟩:=h
 obtain ⟨a,rfl⟩:=vs_one hn'
 obtain ⟨A,cap,rfl,hcap⟩:=rep_slice_shape (hv 0 _ _ rfl rfl)
 have hrep:∀ (A:Option Addr) (w':World) (B:Nat→Option Nat) (K:Nat→Nat→Value→Prop),Rep ⟨E.I,B,K⟩ w' (.sl 8 [] .full) (.slice A 0 0):=fun A w' B K=>.sl 8 [] .full A 0 (fun _ _=>.bool true) (Nat.le_refl _) (Nat.zero_le _) (.inl rfl) (by simp) (by simp) rfl (fun i e j c hi=>by simp at hi) (fun _ _=>rfl)
 cases A with
 | none=>exact .inl ⟨I41.good36,(I41.cloneNil36 _ cap w).mono fun e w' ⟨he,hw⟩=>⟨_,he,by subst hw; exact res_same fun B K=>hrep none _ B K⟩⟩
 | some a=>exact .inl ⟨I41.good36,(I41.cloneEmpty36 a cap w).mono fun e w' ⟨A,he,hw⟩=>⟨_,he,res_below hw fun B K=>hrep A _ B K⟩⟩
theorem o44n (m:Int):ISpecOk PI (GI m) 36 s44n:=(o44 m).mono fun args S p r h hp=>by
 unfold s44n at h
 split at h
 case h_2=>cases h
 rename_i sz es o
 split at h
 ·rename_i he
  injection h with h
  injection h with h1 h2; subst h1 h2
  exact ⟨True,by simp only [s44,sClone,he,if_true],trivial⟩
 ·rename_i he
  split at h
  case isFalse=>cases h
  rename_i hz
  subst hz
  injection h with h
  injection h with h1 h2; subst h1 h2
  exact ⟨_,by simp only [s44,sClone,he,if_true]; rfl,hp.2⟩
theorem o22 (m:Int):SpecOk PI (GI m) 16 s22:=lax_of (X:=XK) (m:=[]) mixedI (tbl_cons (o45 m) tbl_nil) itbl_nil fun args r h=>by
 unfold s22 at h
 split at h
 case h_2=>cases h
 rename_i nm nx sz es
 split at h
 case isFalse=>cases h
 rename_i hc
 obtain ⟨rfl,hlen⟩:=hc
 split at h
 case h_2=>cases h
 rename_i l hl
 obtain rfl:=unGs_inv hl
 injection h with h; subst h
 refine ⟨a22 nm nx l,⟨?_⟩⟩
 rw [w22]
 have hll:(fcsL l).length = l.length:=List.length_map ..
 have hrl:∀ n,n≤l.length→(resP (l.take n)).length = n:=fun n hn=>by simp [resP]; omega
 have hpl:∀ n,n≤l.length→(pksL (resP (l.take n))).length = n:=fun n hn=>by simp [resP]; omega
 rw [hll] at hlen ⊢
 refine ⟨⟨0,⟨rfl⟩,⟨rfl⟩,Nat.zero_le _,trivial⟩,fun x hx=>⟨fun hlt=>?_,fun hge=>?_⟩⟩
 ·have hlt:=of_decide_eq_true hlt
  have hil:x < l.length:=by omega
  refine ⟨⟨by omega,hlt⟩,_,_,_,_,_,_,_,_,by rw [Int.toNat_natCast]; exact take_f hil,_,_,_,_,_,_,_,_,_,_,_,⟨rfl⟩,.inl rfl,by rw [hpl _ hx]; omega,by rw [hpl _ hx,hrl _ hx],x + 1,⟨?_⟩,⟨?_⟩,hil,by omega⟩
  ·rw [wrapN (by omega),List.take_succ_eq_append_getElem hil]
   simp only [resP,List.map_append,List.map_cons,List.map_nil]
   rfl
  ·rw [hpl _ hx,hrl _ hil]
 ·have hge:=of_decide_eq_false hge
  have hx':x = l.length:=by omega
  subst hx'
  rw [List.take_of_length_le (Nat.le_refl _)]
  exact ⟨⟨rfl,rfl,.inl rfl⟩,rfl,rfl⟩
theorem o23 (m:Int):SpecOk PI (GI m) 18 s23:=lax_of (X:=XK) (m:=[]) mixedI tbl_nil (itbl_cons (o44n m) (itbl_cons (o46 m) itbl_nil)) fun args r h=>by
 unfold s23 at h
 split at h
 case h_2=>cases h
 rename_i nm nx sz es src ack n fsrc seq kind ref tab key ev sz2 fs
 split at h
 case isFalse=>cases h
 rename_i hc
 obtain ⟨hsz,rfl,hlen⟩:=hc
 split at h
 case h_2=>cases h
 rename_i l hl
 obtain rfl:=unGs_inv hl
 injection h with h; subst h
 obtain ⟨q,hq⟩:∃ q,ackP ⟨nm,nx,l⟩ src ack n = q:=⟨_,rfl⟩
 rw [hq]
 obtain ⟨⟨rn,rx,rl⟩,rc⟩:=q
 have hz:ackBad nm nx src ack n = true→RetLax (.tup [.agg sdZ,.int .i64 1]) (.tup [.agg (sdC rn rx 8 (fcsL rl)),.int .i64 rc],[]):=fun hb=>by
  simp only [ackP,hb,if_true,Prod.mk.injEq,SdI.mk.injEq] at hq
  obtain ⟨⟨rfl,rfl,rfl⟩,rfl⟩:=hq
  exact ⟨⟨⟨rfl,rfl,⟨rfl,rfl,.inr rfl⟩,trivial⟩,rfl,trivial⟩,rfl,rfl⟩
 have hg:ackBad nm nx src ack n = false→(⟨rn,rx,rl⟩,rc) = ((⟨nm,nx,l.filter fun f=>!decide (f.seq < n)⟩:SdI),(0:Int)):=fun hb=>by
  simp only [ackP,hb,Bool.false_eq_true,if_false] at hq
  exact hq.symm
 cases l with
 | nil =>
  refine ⟨nAn,⟨?_⟩⟩
  have:fcsL rl = []:=by
   cases hb:ackBad nm nx src ack n with
   | true =>
    simp only [ackP,hb,if_true,Prod.mk.injEq,SdI.mk.injEq] at hq
    obtain ⟨⟨rfl,rfl,rfl⟩,rfl⟩:=hq; rfl
   | false =>
    have:=hg hb
    simp only [Prod.mk.injEq,SdI.mk.injEq] at this
    rw [this.1.2.2]; rfl
  unfold sdA
  rw [this] at hz ⊢
  show laxW PI (GI m) XK (tbl []) (itbl [(36,s44n),(39,s46)]) nAn [] 18 [.agg (sdC nm nx sz []),.agg (pkD src ack n fsrc seq kind ref tab key ev fs)] (.tup [.agg (sdC rn rx 8 []),.int .i64 rc],[])
  rw [w23e]
  refine ⟨fun h1=>⟨fun h2=>hz (by simp_all [ackBad]),fun h2=>⟨fun h3=>hz (by simp_all [ackBad]),fun h3=>⟨fun h4=>hz (by simp_all [ackBad]),fun h4=>⟨trivial,trivial,?_⟩⟩⟩⟩,fun h1=>hz (by simp_all [ackBad])⟩
  have:=hg (by simp_all [ackBad])
  simp only [Prod.mk.injEq,SdI.mk.injEq] at this
  obtain ⟨⟨rfl,rfl,_⟩,rfl⟩:=this
  exact ⟨⟨⟨rfl,rfl,⟨rfl,rfl,.inl rfl⟩,trivial⟩,rfl,trivial⟩,rfl,rfl⟩
 | cons f l =>
  obtain rfl:sz = 8:=hsz.resolve_right (by simp)
  refine ⟨nAn,⟨?_⟩⟩
  show laxW PI (GI m) XK (tbl []) (itbl [(36,s44n),(39,s46)]) nAn [] 18 [.agg (sdC nm nx 8 (fcA f :: fcsL l)),.agg (pkD src ack n fsrc seq kind ref tab key ev fs)] (.tup [.agg (sdC rn rx 8 (fcsL rl)),.int .i64 rc],[])
  rw [w23]
  have hlen':l.length + 1≤2000000:=by simpa using hlen
  refine ⟨fun h1=>⟨fun h2=>hz (by simp_all [ackBad]),fun h2=>⟨fun h3=>hz (by simp_all [ackBad]),fun h3=>⟨fun h4=>hz (by simp_all [ackBad]),fun h4=>⟨⟨by simp,by simp; omega⟩,⟨⟨f :: l,rfl⟩,rfl,by simpa using hlen'⟩,rfl,?_⟩⟩⟩⟩,fun h1=>hz (by simp_all [ackBad])⟩
  have:=hg (by simp_all [ackBad])
  simp only [Prod.mk.injEq,SdI.mk.injEq] at this
  obtain ⟨⟨rfl,rfl,rfl⟩,rfl⟩:=this
  refine ⟨⟨⟨rfl,rfl,⟨rfl,?_,.inl rfl⟩,trivial⟩,rfl,trivial⟩,rfl,rfl⟩
  exact keptOpen_fc n (f :: l)
theorem o21 (m:Int):SpecOk PI (GI m) 13 s21:=lax_of' (m:=[]) mixedI fun args r h=>by
 unfold s21 at h
 split at h
 case h_2=>cases h
 rename_i nm nx sz es src seq kind ref tab key ev sz2 es2
 split at h
 case isFalse=>cases h
 rename_i hc
 obtain ⟨hsz,rfl,hlen,hnx⟩:=hc
 split at h
 case h_2=>cases h
 rename_i l fs hl hfs
 obtain rfl:=unGs_inv hl
 obtain rfl:=unL_inv unV_inv hfs
 injection h with h; subst h
 obtain ⟨g,hgd⟩:∃ g:FcI,(⟨src,seq,kind,ref,tab,key,ev,fs⟩:FcI) = g:=⟨_,rfl⟩
 rw [hgd]
 obtain ⟨q,hq⟩:∃ q,subP ⟨nm,nx,l⟩ g = q:=⟨_,rfl⟩
 rw [hq]
 obtain ⟨⟨rn,rx,rl⟩,p,rc⟩:=q
 have hZ:∀ c:Int,(q:(⟨⟨rn,rx,rl⟩,p,rc⟩:SdI × PkI × Int) = (⟨[],0,[]⟩,⟨[],false,0,⟨[],0,0,0,[],[],0,[]⟩⟩,c))→RetLax (.tup [.agg sdZ,.agg zeroPC,.int .i64 c]) (.tup [.agg (sdC rn rx 8 (fcsL rl)),pkA p,.int .i64 rc],[]):=fun c hq=>by
  simp only [Prod.mk.injEq,SdI.mk.injEq] at hq
  obtain ⟨⟨rfl,rfl,rfl⟩,rfl,rfl⟩:=hq
  exact ⟨⟨⟨rfl,rfl,⟨rfl,rfl,.inr rfl⟩,trivial⟩,⟨rfl,rfl,rfl,rfl,rfl,rfl,rfl,rfl,rfl,rfl,⟨rfl,rfl,.inr rfl⟩,trivial⟩,rfl,trivial⟩,rfl,rfl⟩
 have h1:decide (nx > 1099511627776) = true→(⟨⟨rn,rx,rl⟩,p,rc⟩:SdI × PkI × Int) = (⟨[],0,[]⟩,⟨[],false,0,⟨[],0,0,0,[],[],0,[]⟩⟩,2):=fun h=>by
  have h:=of_decide_eq_true h
  rw [← hq]; unfold subP; rw [if_pos (by show (1099511627776:Int) < nx; omega)]
 have h2:decide (nx > 1099511627776) = false→64≤l.length→(⟨⟨rn,rx,rl⟩,p,rc⟩:SdI × PkI × Int) = (⟨[],0,[]⟩,⟨[],false,0,⟨[],0,0,0,[],[],0,[]⟩⟩,410):=fun h h'=>by
  have h:=of_decide_eq_false h
  rw [← hq]; unfold subP; rw [if_neg (by show ¬ (1099511627776:Int) < nx; omega),if_pos h']
 have h3:decide (nx > 1099511627776) = false→¬ 64≤l.length→(⟨⟨rn,rx,rl⟩,p,rc⟩:SdI × PkI × Int) = (⟨nm,nx + 1,l ++ [{ g with src:=nm,seq:=nx }]⟩,⟨nm,false,0,{ g with src:=nm,seq:=nx }⟩,0):=fun h h'=>by
  have h:=of_decide_eq_false h
  rw [← hq]; unfold subP; rw [if_neg (by show ¬ (1099511627776:Int) < nx; omega),if_neg h']
 have hw:decide (nx > 1099511627776) = false→IntKind.i64.wrap (nx + 1) = nx + 1:=fun h=>by
  have h:=of_decide_eq_false h
  exact wrap64_in (by omega) (by omega)
 have hgc:(AV.agg [.str src,.int .i64 seq,.int .i64 kind,.int .i64 ref,.str tab,.str key,.int .i64 ev,.sl 3 (fs.map vaA) .no]) = .agg (fcC g):=by rw [← hgd]
 rw [hgc]
 cases l with
 | nil =>
  refine ⟨XZ,_,_,nAn,tbl_cons (o44z m) (tbl_cons (o45 m) tbl_nil),itbl_nil,⟨?_⟩⟩
  show laxW PI (GI m) XZ (tbl [(36,s44z),(37,s45)]) (itbl []) nAn [] 13 [.agg (sdC nm nx sz []),.agg (fcC g)] (.tup [.agg (sdC rn rx 8 (fcsL rl)),pkA p,.int .i64 rc],[])
  rw [w21e]
  refine ⟨fun h=>hZ 2 (h1 h),fun h=>⟨fun h'=>(by cases h'),fun h'=>⟨_,⟨rfl⟩,.inl rfl,by simp,_,_,_,_,_,_,_,_,_,_,_,⟨rfl⟩,?_⟩⟩⟩
  have h3:=h3 h (by simp)
  rw [hw h]
  simp only [Prod.mk.injEq,SdI.mk.injEq] at h3
  obtain ⟨⟨rfl,rfl,rfl⟩,rfl,rfl⟩:=h3
  exact ⟨⟨⟨rfl,rfl,⟨rfl,rfl,.inl rfl⟩,trivial⟩,⟨rfl,rfl,rfl,rfl,rfl,rfl,rfl,rfl,rfl,rfl,⟨rfl,rfl,.inl rfl⟩,trivial⟩,rfl,trivial⟩,rfl,rfl⟩
 | cons f l =>
  obtain rfl:sz = 8:=hsz.resolve_right (by simp)
  refine ⟨XK,_,_,nAn,tbl_cons (o44p m) (tbl_cons (o45 m) tbl_nil),itbl_nil,⟨?_⟩⟩
  show laxW PI (GI m) XK (tbl [(36,s44p),(37,s45)]) (itbl []) nAn [] 13 [.agg (sdC nm nx 8 (fcA f :: fcsL l)),.agg (fcC g)] (.tup [.agg (sdC rn rx 8 (fcsL rl)),pkA p,.int .i64 rc],[])
  rw [w21]
  have hlen':l.length + 1≤2000000:=by simpa using hlen
  have k44:tbl [(36,s44p),(37,s45)] 36 [.sl 8 (fcA f :: fcsL l) .no] = some (.sl 8 (fcA f :: fcsL l) (.tok 0),[((fcsL l).length + 1,29)]):=by
   rw [tbl_hit]
   have:(fcsL l).length≤2000000:=by rw [List.length_map]; omega
   simp only [s44p,this,true_and,if_true]
  have hll:(fcA f :: fcsL l).length = l.length + 1:=by simp
  refine ⟨fun h=>hZ 2 (h1 h),fun h=>⟨fun h'=>hZ 410 (h2 h (by have h':=of_decide_eq_true h'; have:((fcA f :: fcsL l).length:Int) ≥ 64:=h'; rw [hll] at this; simp only [List.length_cons]; omega)),fun h'=>⟨_,⟨k44⟩,.inl rfl,by rw [hll]; omega,rfl,_,_,_,_,_,_,_,_,_,_,_,⟨rfl⟩,?_⟩⟩⟩
  have h3:=h3 h (by have h':=of_decide_eq_false h'; have h':¬ ((fcA f :: fcsL l).length:Int) ≥ 64:=h'; rw [hll] at h'; simp only [List.length_cons]; omega)
  rw [hw h]
  simp only [Prod.mk.injEq,SdI.mk.injEq] at h3
  obtain ⟨⟨rfl,rfl,rfl⟩,rfl,rfl⟩:=h3
  exact ⟨⟨⟨rfl,rfl,⟨rfl,by rw [show fcsL (f :: l ++ [_]) = fcA f :: (fcsL l ++ [_]) from by simp [fcsL]; rfl]; rfl,.inl rfl⟩,trivial⟩,⟨rfl,rfl,rfl,rfl,rfl,rfl,rfl,rfl,rfl,rfl,⟨rfl,rfl,.inl rfl⟩,trivial⟩,rfl,trivial⟩,rfl,rfl⟩
end Go.Abs
namespace Go.Abs
open Go.Proofs
structure EnI where
 tick:Int
 kind:Int
 f:FcI
deriving DecidableEq,Inhabited
def enA (e:EnI):AV:=.agg [.opq,.int .i64 e.tick,.int .i64 e.kind,.str e.f.src,.int .i64 e.f.seq,.int .i64 e.f.kind,.int .i64 e.f.ref,.str e.f.table,.str e.f.key,.int .i64 e.f.event,.sl 3 (vasL e.f.fs) .no,.opq,.opq,.opq,.opq,.opq,.opq,.opq,.opq,.opq,.opq,.opq,.opq,.opq,.opq,.opq,.opq,.opq,.opq,.opq,.opq,.opq,.opq,.opq,.opq,.opq,.opq,.opq,.opq,.opq]
abbrev ensL (l:List EnI):List AV:=l.map enA
def isOpq:AV→Bool
 | .opq=>true
 | _=>false
def unE:AV→Option EnI
 | .agg (.opq :: .int .i64 tick :: .int .i64 kind :: .str src :: .int .i64 seq :: .int .i64 k2 :: .int .i64 ref :: .str table :: .str key :: .int .i64 event :: .sl sz es .no :: rest)=>if sz = 3∧rest.length = 29∧rest.all isOpq = true then (unL unV es).map fun fs=>⟨tick,kind,⟨src,seq,k2,ref,table,key,event,fs⟩⟩ else none
 | _=>none
def relB (tick:Int) (e:EnI):Bool:=decide (e.kind = 1) && decide (e.tick≤tick)
def metL (tick:Int) (l:List EnI):List EnI:=l.filter (relB tick)
abbrev idA (s:List UInt8) (n:Int):AV:=.agg [.str s,.int .i64 n]
def idsM (L:List EnI):List AV:=L.foldl (fun m e=>keptPutM m (idA e.f.src e.f.seq) (.bool true)) []
def srcM (L:List EnI):List AV:=L.foldl (fun m e=>keptPutM m (.str e.f.src) (.bool true)) []
def hasId (L:List EnI) (s:List UInt8) (n:Int):Bool:=L.any fun e=>decide (e.f.src = s) && decide (e.f.seq = n)
def nextF (has:Int→Bool):Nat→Int→Int
 | 0,n=>n
 | k + 1,n=>if has n then nextF has k (n + 1) else n
def nextM (L:List EnI) (s:List UInt8):Int:=nextF (hasId L s) L.length 1
def mkOf (L:List EnI) (s:List UInt8):MkI:=⟨s,nextM L s⟩
def nmsM (L:List EnI):List (List UInt8):=keptSort (keysM (srcM L))
def marksM (L:List EnI):List MkI:=(nmsM L).map (mkOf L)
def insN (s:List UInt8) (l:List (List UInt8)):List (List UInt8):=
 let k:=(l.takeWhile fun a=>Op.bytesLess a s).length
 if l[k]? = some s then l else l.take k ++ [s] ++ l.drop k
def nmsR (L:List EnI):List (List UInt8):=L.foldl (fun m e=>insN e.f.src m) []
def idsOk (l:List EnI):Bool:=l.all fun e=>decide (e.f.src.length≤100000000) && decide (-9223372036854775808≤e.f.seq) && decide (e.f.seq≤9223372036854775807)
def s15:Spec:=fun args=>match args with
 | [.sl sz es .no,.int .i64 tick]=>if sz = 40∧es.length≤2000000 then (match unL unE es with
  | some l=>if idsOk l = true then some (.sl 2 (mksL (marksM (metL tick l))) .no,[]) else none
  | none=>none) else none
 | _=>none
abbrev shEn:Sh × Option TypeId:=(.val (.agg [.is .opq,.int .i64,.int .i64,.str,.int .i64,.int .i64,.int .i64,.str,.str,.int .i64,.sl 3 .no,.is .opq,.is .opq,.is .opq,.is .opq,.is .opq,.is .opq,.is .opq,.is .opq,.is .opq,.is .opq,.is .opq,.is .opq,.is .opq,.is .opq,.is .opq,.is .opq,.is .opq,.is .opq,.is .opq,.is .opq,.is .opq,.is .opq,.is .opq,.is .opq,.is .opq,.is .opq,.is .opq,.is .opq,.is .opq]),none)
def XMa:Shapes:=fun f=>match f with
 | 7 | 8 | 32=>some shB
 | 28=>some (.val (.one (.sl 2 .no)),none)
 | 2000089=>some shEn
 | _=>none
abbrev SM0 (L:List EnI):St:=⟨[some (mapC 114 L.length (idsM L)),some (mapC 115 L.length (srcM L))],[]⟩
structure St15 where
 i:Nat
 j:Nat
 s:List UInt8
def a15 (l:List EnI) (tick:Int):Anns:=⟨fun k=>match k with
 | 4=>some { α:=Nat,slots:=[1,4,5,6,14,15,16],nb:=2,vals:=fun n=>[.int .i64 tick,.sl 0 [] .nil,.mp 0,.mp 1,.sl 40 (ensL l) .no,.int .i64 l.length,.int .i64 n],sS:=fun n=>SM0 (metL tick (l.take n)),I:=fun n=>n≤l.length,μ:=fun n=>l.length - n }
 | 11=>some { α:=Nat,slots:=[4,5,41,42,43],nb:=3,vals:=fun n=>[.sl 2 (mksL ((marksM (metL tick l)).take n)) (.tok 0),.mp 0,.sl 1 ((nmsM (metL tick l)).map .str) .no,.int .i64 (nmsM (metL tick l)).length,.int .i64 n],sS:=fun n=>⟨[some (mapC 114 (metL tick l).length (idsM (metL tick l))),some (mapC 115 (metL tick l).length (srcM (metL tick l))),some [.mp 1]],[(((marksM (metL tick l)).take n).length,93)]⟩,I:=fun n=>n≤(nmsM (metL tick l)).length,μ:=fun n=>(nmsM (metL tick l)).length - n,mint:=[(4,93)] }
 | 14=>some { α:=St15,slots:=[4,5,10,11,41,42,43],nb:=4,vals:=fun n=>[.sl 2 (mksL ((marksM (metL tick l)).take n.i)) (.tok 0),.mp 0,.str n.s,.ptr 3 0,.sl 1 ((nmsM (metL tick l)).map .str) .no,.int .i64 (nmsM (metL tick l)).length,.int .i64 n.i],sS:=fun n=>⟨[some (mapC 114 (metL tick l).length (idsM (metL tick l))),some (mapC 115 (metL tick l).length (srcM (metL tick l))),some [.mp 1],some [.str n.s,.int .i64 (n.j + 1)]],[(((marksM (metL tick l)).take n.i).length,93)]⟩,I:=fun n=>(nmsM (metL tick l))[n.i]? = some n.s∧n.j≤(metL tick l).length∧(∀ k:Nat,k < n.j→hasId (metL tick l) n.s (k + 1) = true)∧nextF (hasId (metL tick l) n.s) ((metL tick l).length - n.j) (n.j + 1) = nextM (metL tick l) n.s,μ:=fun n=>(metL tick l).length - n.j,link:=some fun T n=>T[43]? = some (.int .i64 n.i) }
 | _=>none,nA⟩
theorem w15 (m:Int) (l:List EnI) (tick:Int):(laxW PI (GI m) XMa (tbl []) (itbl [(50,s41),(49,s40)]) (a15 l tick) [] 28 [.sl 40 (ensL l) .no,.int .i64 tick] (.sl 2 (mksL (marksM (metL tick l))) .no,[])) =
((∃ (y : Nat),
  ValsAre
    [AV.int IntKind.i64 tick,AV.sl ((0:Nat)) [] Own.nil,AV.mp ((0:Nat)),AV.mp ((1:Nat)),AV.sl ((40:Nat)) (ensL l) Own.no,
     AV.int IntKind.i64 (↑(ensL l).length:Int),AV.int IntKind.i64 (0:Int)]
    [AV.int IntKind.i64 tick,AV.sl ((0:Nat)) [] Own.nil,AV.mp ((0:Nat)),AV.mp ((1:Nat)),AV.sl ((40:Nat)) (ensL l) Own.no,
     AV.int IntKind.i64 (↑l.length:Int),AV.int IntKind.i64 (↑y:Int)] ∧
   StIs
     {
      boxes:=
       [some [AV.tup [AV.int IntKind.i64 (114:Int),AV.int IntKind.i64 (0:Int),AV.tup []]],
        some [AV.tup [AV.int IntKind.i64 (115:Int),AV.int IntKind.i64 (0:Int),AV.tup []]]],
      live:=[] }
     {
      boxes:=
       [some
         [AV.tup
           [AV.int IntKind.i64 (114:Int),AV.int IntKind.i64 (↑(metL tick (List.take y l)).length:Int),
            AV.tup (idsM (metL tick (List.take y l)))]],
        some
         [AV.tup
           [AV.int IntKind.i64 (115:Int),AV.int IntKind.i64 (↑(metL tick (List.take y l)).length:Int),
            AV.tup (srcM (metL tick (List.take y l)))]]],
      live:=[] } ∧
    y≤l.length∧True) ∧
 ∀ (x:Nat),
  x≤l.length →
   (decide ((↑x:Int) < (↑l.length:Int)) = true →
     ((0:Int)≤(↑x:Int)∧(↑x:Int) < (↑(ensL l).length:Int)) ∧
      ∃ (n:Int),
       ∃ (n_1:Int),
        ∃ (s:List UInt8),
         ∃ (n_2:Int),
          ∃ (n_3:Int),
           ∃ (n_4:Int),
            ∃ (s_1:List UInt8),
             ∃ (s_2:List UInt8),
              ∃ (n_5:Int),
               ∃ (es:List AV),
                takeAt PI ((89:Nat)) (ensL l) (↑x:Int).toNat ((0:Nat)) =
                  some
                   (AV.agg
                    [AV.opq,AV.int IntKind.i64 n,AV.int IntKind.i64 n_1,AV.str s,AV.int IntKind.i64 n_2,AV.int IntKind.i64 n_3,
                     AV.int IntKind.i64 n_4,AV.str s_1,AV.str s_2,AV.int IntKind.i64 n_5,AV.sl ((3:Nat)) es Own.no,AV.opq,AV.opq,
                     AV.opq,AV.opq,AV.opq,AV.opq,AV.opq,AV.opq,AV.opq,AV.opq,AV.opq,AV.opq,AV.opq,AV.opq,AV.opq,AV.opq,
                     AV.opq,AV.opq,AV.opq,AV.opq,AV.opq,AV.opq,AV.opq,AV.opq,AV.opq,AV.opq,AV.opq,AV.opq,AV.opq]) ∧
                 ((n_1 == (1 : Int)) = true →
                   (decide (n≤tick) = true →
                     True ∧
                      KeyIs PI ((26:Nat)) (AV.agg [AV.str s,AV.int IntKind.i64 n_2]) ∧
                       ValIs (AV.bool true) ∧
                        (0:Int)≤(↑(metL tick (List.take x l)).length:Int) ∧
                         (↑(metL tick (List.take x l)).length:Int) < (70368744177664:Int) ∧
                          True ∧
                           KeyIs PI ((9:Nat)) (AV.str s) ∧
                            ValIs (AV.bool true) ∧
                             (0:Int)≤(↑(metL tick (List.take x l)).length:Int) ∧
                              (↑(metL tick (List.take x l)).length:Int) < (70368744177664:Int) ∧
                               ∃ (y:Nat),
                                ValsAre
                                  [AV.int IntKind.i64 tick,AV.sl ((0:Nat)) [] Own.nil,AV.mp ((0:Nat)),
                                   AV.mp ((1:Nat)),AV.sl ((40:Nat)) (ensL l) Own.no,
                                   AV.int IntKind.i64 (↑l.length:Int),
                                   AV.int IntKind.i64 (IntKind.i64.wrap ((↑x:Int) + (1:Int)))]
                                  [AV.int IntKind.i64 tick,AV.sl ((0:Nat)) [] Own.nil,AV.mp ((0:Nat)),
                                   AV.mp ((1:Nat)),AV.sl ((40:Nat)) (ensL l) Own.no,
                                   AV.int IntKind.i64 (↑l.length:Int),AV.int IntKind.i64 (↑y:Int)] ∧
                                 StIs
                                   {
                                    boxes:=
                                     [some
                                       [AV.tup
                                         [AV.int IntKind.i64 (114:Int),
                                          AV.int IntKind.i64
                                           ((↑(metL tick (List.take x l)).length:Int) + (1:Int)),
                                          AV.tup
                                           (keptPutM (idsM (metL tick (List.take x l)))
                                            (AV.agg [AV.str s,AV.int IntKind.i64 n_2]) (AV.bool true))]],
                                      some
                                       [AV.tup
                                         [AV.int IntKind.i64 (115:Int),
                                          AV.int IntKind.i64
                                           ((↑(metL tick (List.take x l)).length:Int) + (1:Int)),
                                          AV.tup
                                           (keptPutM (srcM (metL tick (List.take x l))) (AV.str s)
                                            (AV.bool true))]]],
                                    live:=[] }
                                   {
                                    boxes:=
                                     [some
                                       [AV.tup
                                         [AV.int IntKind.i64 (114:Int),
                                          AV.int IntKind.i64 (↑(metL tick (List.take y l)).length:Int),
                                          AV.tup (idsM (metL tick (List.take y l)))]],
                                      some
                                       [AV.tup
                                         [AV.int IntKind.i64 (115:Int),
                                          AV.int IntKind.i64 (↑(metL tick (List.take y l)).length:Int),
                                          AV.tup (srcM (metL tick (List.take y l)))]]],
                                    live:=[] } ∧
                                  y≤l.length∧l.length - y < l.length - x) ∧
                    (decide (n≤tick) = false →
                     ∃ (y:Nat),
                      ValsAre
                        [AV.int IntKind.i64 tick,AV.sl ((0:Nat)) [] Own.nil,AV.mp ((0:Nat)),AV.mp ((1:Nat)),
                         AV.sl ((40:Nat)) (ensL l) Own.no,AV.int IntKind.i64 (↑l.length:Int),
                         AV.int IntKind.i64 (IntKind.i64.wrap ((↑x:Int) + (1:Int)))]
                        [AV.int IntKind.i64 tick,AV.sl ((0:Nat)) [] Own.nil,AV.mp ((0:Nat)),AV.mp ((1:Nat)),
                         AV.sl ((40:Nat)) (ensL l) Own.no,AV.int IntKind.i64 (↑l.length:Int),AV.int IntKind.i64 (↑y:Int)] ∧
                       StIs
                         {
                          boxes:=
                           [some
                             [AV.tup
                               [AV.int IntKind.i64 (114:Int),AV.int IntKind.i64 (↑(metL tick (List.take x l)).length:Int),
                                AV.tup (idsM (metL tick (List.take x l)))]],
                            some
                             [AV.tup
                               [AV.int IntKind.i64 (115:Int),AV.int IntKind.i64 (↑(metL tick (List.take x l)).length:Int),
                                AV.tup (srcM (metL tick (List.take x l)))]]],
                          live:=[] }
                         {
                          boxes:=
                           [some
                             [AV.tup
                               [AV.int IntKind.i64 (114:Int),AV.int IntKind.i64 (↑(metL tick (List.take y l)).length:Int),
                                AV.tup (idsM (metL tick (List.take y l)))]],
                            some
                             [AV.tup
                               [AV.int IntKind.i64 (115:Int),AV.int IntKind.i64 (↑(metL tick (List.take y l)).length:Int),
                                AV.tup (srcM (metL tick (List.take y l)))]]],
                          live:=[] } ∧
                        y≤l.length∧l.length - y < l.length - x)) ∧
                  ((n_1 == (1:Int)) = false →
                   ∃ (y:Nat),
                    ValsAre
                      [AV.int IntKind.i64 tick,AV.sl ((0:Nat)) [] Own.nil,AV.mp ((0:Nat)),AV.mp ((1:Nat)),
                       AV.sl ((40:Nat)) (ensL l) Own.no,AV.int IntKind.i64 (↑l.length:Int),
                       AV.int IntKind.i64 (IntKind.i64.wrap ((↑x:Int) + (1:Int)))]
                      [AV.int IntKind.i64 tick,AV.sl ((0:Nat)) [] Own.nil,AV.mp ((0:Nat)),AV.mp ((1:Nat)),
                       AV.sl ((40:Nat)) (ensL l) Own.no,AV.int IntKind.i64 (↑l.length:Int),AV.int IntKind.i64 (↑y:Int)] ∧
                     StIs
                       {
                        boxes:=
                         [some
                           [AV.tup
                             [AV.int IntKind.i64 (114:Int),AV.int IntKind.i64 (↑(metL tick (List.take x l)).length:Int),
                              AV.tup (idsM (metL tick (List.take x l)))]],
                          some
                           [AV.tup
                             [AV.int IntKind.i64 (115:Int),AV.int IntKind.i64 (↑(metL tick (List.take x l)).length:Int),
                              AV.tup (srcM (metL tick (List.take x l)))]]],
                        live:=[] }
                       {
                        boxes:=
                         [some
                           [AV.tup
                             [AV.int IntKind.i64 (114:Int),AV.int IntKind.i64 (↑(metL tick (List.take y l)).length:Int),
                              AV.tup (idsM (metL tick (List.take y l)))]],
                          some
                           [AV.tup
                             [AV.int IntKind.i64 (115:Int),AV.int IntKind.i64 (↑(metL tick (List.take y l)).length:Int),
                              AV.tup (srcM (metL tick (List.take y l)))]]],
                        live:=[] } ∧
                      y≤l.length∧l.length - y < l.length - x)) ∧
    (decide ((↑x:Int) < (↑l.length:Int)) = false →
     True ∧
      (List.Pairwise (fun (x1 x2:List UInt8)=>x1 ≠ x2) (keysM (srcM (metL tick (List.take x l)))) ∧
        (↑(metL tick (List.take x l)).length:Int)≤(1000000000000:Int)) ∧
       (∃ (y:Nat),
         ValsAre
           [AV.sl ((2:Nat)) [] (Own.tok (0:Nat)),AV.mp ((0:Nat)),
            AV.sl ((1:Nat)) (List.map AV.str (keptSort (keysM (srcM (metL tick (List.take x l)))))) Own.no,
            AV.int IntKind.i64 (↑(List.map AV.str (keptSort (keysM (srcM (metL tick (List.take x l)))))).length:Int),
            AV.int IntKind.i64 (0:Int)]
           [AV.sl ((2:Nat)) (mksL (List.take y (marksM (metL tick l)))) (Own.tok ((0:Nat))),AV.mp ((0:Nat)),
            AV.sl ((1:Nat)) (List.map AV.str (nmsM (metL tick l))) Own.no,AV.int IntKind.i64 (↑(nmsM (metL tick l)).length:Int),
            AV.int IntKind.i64 (↑y:Int)] ∧
          StIs
            {
             boxes:=
              [some
                [AV.tup
                  [AV.int IntKind.i64 (114:Int),AV.int IntKind.i64 (↑(metL tick (List.take x l)).length:Int),
                   AV.tup (idsM (metL tick (List.take x l)))]],
               some
                [AV.tup
                  [AV.int IntKind.i64 (115:Int),AV.int IntKind.i64 (↑(metL tick (List.take x l)).length:Int),
                   AV.tup (srcM (metL tick (List.take x l)))]],
               some [AV.mp ((1:Nat))]],
             live:=[((0:Nat),(93:Nat))] }
            {
             boxes:=
              [some [AV.tup [AV.int IntKind.i64 (114:Int),AV.int IntKind.i64 (↑(metL tick l).length:Int),AV.tup (idsM (metL tick l))]],
               some [AV.tup [AV.int IntKind.i64 (115:Int),AV.int IntKind.i64 (↑(metL tick l).length:Int),AV.tup (srcM (metL tick l))]],
               some [AV.mp ((1:Nat))]],
             live:=[((List.take y (marksM (metL tick l))).length,(93:Nat))] } ∧
           y≤(nmsM (metL tick l)).length∧True) ∧
        ∀ (x:Nat),
         x≤(nmsM (metL tick l)).length →
          (decide ((↑x:Int) < (↑(nmsM (metL tick l)).length:Int)) = true →
            ((0:Int)≤(↑x:Int)∧(↑x:Int) < (↑(List.map AV.str (nmsM (metL tick l))).length:Int)) ∧
             ∃ (s:List UInt8),
              takeAt PI ((9:Nat)) (List.map AV.str (nmsM (metL tick l))) (↑x:Int).toNat ((0:Nat)) = some (AV.str s) ∧
               (∃ (y:St15),
                 ValsAre
                   [AV.sl ((2:Nat)) (mksL (List.take x (marksM (metL tick l)))) (Own.tok ((0:Nat))),AV.mp ((0:Nat)),AV.str s,
                    AV.ptr ((3:Nat)) ((0:Nat)),AV.sl ((1:Nat)) (List.map AV.str (nmsM (metL tick l))) Own.no,
                    AV.int IntKind.i64 (↑(nmsM (metL tick l)).length:Int),AV.int IntKind.i64 (↑x:Int)]
                   [AV.sl ((2:Nat)) (mksL (List.take y.i (marksM (metL tick l)))) (Own.tok ((0:Nat))),AV.mp ((0:Nat)),AV.str y.s,
                    AV.ptr ((3:Nat)) ((0:Nat)),AV.sl ((1:Nat)) (List.map AV.str (nmsM (metL tick l))) Own.no,
                    AV.int IntKind.i64 (↑(nmsM (metL tick l)).length:Int),AV.int IntKind.i64 (↑y.i:Int)] ∧
                  StIs
                    {
                     boxes:=
                      [some
                        [AV.tup
                          [AV.int IntKind.i64 (114:Int),AV.int IntKind.i64 (↑(metL tick l).length:Int),
                           AV.tup (idsM (metL tick l))]],
                       some
                        [AV.tup
                          [AV.int IntKind.i64 (115:Int),AV.int IntKind.i64 (↑(metL tick l).length:Int),
                           AV.tup (srcM (metL tick l))]],
                       some [AV.mp ((1:Nat))],some [AV.str s,AV.int IntKind.i64 (1:Int)]],
                     live:=[((List.take x (marksM (metL tick l))).length,(93:Nat))] }
                    {
                     boxes:=
                      [some
                        [AV.tup
                          [AV.int IntKind.i64 (114:Int),AV.int IntKind.i64 (↑(metL tick l).length:Int),
                           AV.tup (idsM (metL tick l))]],
                       some
                        [AV.tup
                          [AV.int IntKind.i64 (115:Int),AV.int IntKind.i64 (↑(metL tick l).length:Int),
                           AV.tup (srcM (metL tick l))]],
                       some [AV.mp ((1:Nat))],some [AV.str y.s,AV.int IntKind.i64 ((↑y.j:Int) + (1:Int))]],
                     live:=[((List.take y.i (marksM (metL tick l))).length,(93:Nat))] } ∧
                   ((nmsM (metL tick l))[y.i]? = some y.s ∧
                     y.j≤(metL tick l).length ∧
                      (∀ (k:Nat),k < y.j→hasId (metL tick l) y.s ((↑k:Int) + (1:Int)) = true) ∧
                       nextF (hasId (metL tick l) y.s) ((metL tick l).length - y.j) ((↑y.j:Int) + (1:Int)) =
                        nextM (metL tick l) y.s) ∧
                    some (AV.int IntKind.i64 (↑x:Int)) = some (AV.int IntKind.i64 (↑y.i:Int))) ∧
                ∀ (x_1:St15),
                 (nmsM (metL tick l))[x_1.i]? = some x_1.s ∧
                   x_1.j≤(metL tick l).length ∧
                    (∀ (k:Nat),k < x_1.j→hasId (metL tick l) x_1.s ((↑k:Int) + (1:Int)) = true) ∧
                     nextF (hasId (metL tick l) x_1.s) ((metL tick l).length - x_1.j) ((↑x_1.j:Int) + (1:Int)) =
                      nextM (metL tick l) x_1.s →
                  some (AV.int IntKind.i64 (↑x:Int)) = some (AV.int IntKind.i64 (↑x_1.i:Int)) →
                   KeyIs PI ((26:Nat)) (AV.agg [AV.str x_1.s,AV.int IntKind.i64 ((↑x_1.j:Int) + (1:Int))]) ∧
                    ∃ (b:Bool),
                     LookIs (idsM (metL tick l)) (AV.agg [AV.str x_1.s,AV.int IntKind.i64 ((↑x_1.j:Int) + (1:Int))]) (AV.bool false)
                       (AV.bool b) ∧
                      (b = true →
                        ∃ (y:St15),
                         ValsAre
                           [AV.sl ((2:Nat)) (mksL (List.take x_1.i (marksM (metL tick l)))) (Own.tok ((0:Nat))),
                            AV.mp ((0:Nat)),AV.str x_1.s,AV.ptr ((3:Nat)) ((0:Nat)),
                            AV.sl ((1:Nat)) (List.map AV.str (nmsM (metL tick l))) Own.no,
                            AV.int IntKind.i64 (↑(nmsM (metL tick l)).length:Int),AV.int IntKind.i64 (↑x_1.i:Int)]
                           [AV.sl ((2:Nat)) (mksL (List.take y.i (marksM (metL tick l)))) (Own.tok ((0:Nat))),AV.mp ((0:Nat)),
                            AV.str y.s,AV.ptr ((3:Nat)) ((0:Nat)),
                            AV.sl ((1:Nat)) (List.map AV.str (nmsM (metL tick l))) Own.no,
                            AV.int IntKind.i64 (↑(nmsM (metL tick l)).length:Int),AV.int IntKind.i64 (↑y.i:Int)] ∧
                          StIs
                            {
                             boxes:=
                              [some
                                [AV.tup
                                  [AV.int IntKind.i64 (114:Int),AV.int IntKind.i64 (↑(metL tick l).length:Int),
                                   AV.tup (idsM (metL tick l))]],
                               some
                                [AV.tup
                                  [AV.int IntKind.i64 (115:Int),AV.int IntKind.i64 (↑(metL tick l).length:Int),
                                   AV.tup (srcM (metL tick l))]],
                               some [AV.mp ((1:Nat))],
                               some
                                [AV.str x_1.s,AV.int IntKind.i64 (IntKind.i64.wrap ((↑x_1.j:Int) + (1:Int) + (1:Int)))]],
                             live:=[((List.take x_1.i (marksM (metL tick l))).length,(93:Nat))] }
                            {
                             boxes:=
                              [some
                                [AV.tup
                                  [AV.int IntKind.i64 (114:Int),AV.int IntKind.i64 (↑(metL tick l).length:Int),
                                   AV.tup (idsM (metL tick l))]],
                               some
                                [AV.tup
                                  [AV.int IntKind.i64 (115:Int),AV.int IntKind.i64 (↑(metL tick l).length:Int),
                                   AV.tup (srcM (metL tick l))]],
                               some [AV.mp ((1:Nat))],some [AV.str y.s,AV.int IntKind.i64 ((↑y.j:Int) + (1:Int))]],
                             live:=[((List.take y.i (marksM (metL tick l))).length,(93:Nat))] } ∧
                           ((nmsM (metL tick l))[y.i]? = some y.s ∧
                             y.j≤(metL tick l).length ∧
                              (∀ (k:Nat),k < y.j→hasId (metL tick l) y.s ((↑k:Int) + (1:Int)) = true) ∧
                               nextF (hasId (metL tick l) y.s) ((metL tick l).length - y.j) ((↑y.j:Int) + (1:Int)) =
                                nextM (metL tick l) y.s) ∧
                            some (AV.int IntKind.i64 (↑x:Int)) = some (AV.int IntKind.i64 (↑y.i:Int)) ∧
                             (metL tick l).length - y.j < (metL tick l).length - x_1.j) ∧
                       (b = false →
                        ((2:Nat) = (2:Nat)∨mksL (List.take x_1.i (marksM (metL tick l))) = []) ∧
                         ((mksL (List.take x_1.i (marksM (metL tick l)))).length + (1:Nat)) * (25:Nat)≤(70368744177664:Nat) ∧
                          (List.take x_1.i (marksM (metL tick l))).length = (mksL (List.take x_1.i (marksM (metL tick l)))).length ∧
                           ∃ (y:Nat),
                            ValsAre
                              [AV.sl ((2:Nat))
                                (mksL (List.take x_1.i (marksM (metL tick l))) ++
                                 [AV.agg [AV.str x_1.s,AV.int IntKind.i64 ((↑x_1.j:Int) + (1:Int))]])
                                (Own.tok ((0:Nat))),
                               AV.mp ((0:Nat)),AV.sl ((1:Nat)) (List.map AV.str (nmsM (metL tick l))) Own.no,
                               AV.int IntKind.i64 (↑(nmsM (metL tick l)).length:Int),
                               AV.int IntKind.i64 (IntKind.i64.wrap ((↑x_1.i:Int) + (1:Int)))]
                              [AV.sl ((2:Nat)) (mksL (List.take y (marksM (metL tick l)))) (Own.tok ((0:Nat))),
                               AV.mp ((0:Nat)),AV.sl ((1:Nat)) (List.map AV.str (nmsM (metL tick l))) Own.no,
                               AV.int IntKind.i64 (↑(nmsM (metL tick l)).length:Int),AV.int IntKind.i64 (↑y:Int)] ∧
                             StIs
                               {
                                boxes:=
                                 [some
                                   [AV.tup
                                     [AV.int IntKind.i64 (114:Int),AV.int IntKind.i64 (↑(metL tick l).length:Int),
                                      AV.tup (idsM (metL tick l))]],
                                  some
                                   [AV.tup
                                     [AV.int IntKind.i64 (115:Int),AV.int IntKind.i64 (↑(metL tick l).length:Int),
                                      AV.tup (srcM (metL tick l))]],
                                  some [AV.mp ((1:Nat))]],
                                live:=[((mksL (List.take x_1.i (marksM (metL tick l)))).length + (1:Nat),(93:Nat))] }
                               {
                                boxes:=
                                 [some
                                   [AV.tup
                                     [AV.int IntKind.i64 (114:Int),AV.int IntKind.i64 (↑(metL tick l).length:Int),
                                      AV.tup (idsM (metL tick l))]],
                                  some
                                   [AV.tup
                                     [AV.int IntKind.i64 (115:Int),AV.int IntKind.i64 (↑(metL tick l).length:Int),
                                      AV.tup (srcM (metL tick l))]],
                                  some [AV.mp ((1:Nat))]],
                                live:=[((List.take y (marksM (metL tick l))).length,(93:Nat))] } ∧
                              y≤(nmsM (metL tick l)).length ∧
                               (nmsM (metL tick l)).length - y < (nmsM (metL tick l)).length - x)) ∧
           (decide ((↑x:Int) < (↑(nmsM (metL tick l)).length:Int)) = false →
            RetLax (AV.sl ((2:Nat)) (mksL (List.take x (marksM (metL tick l)))) (Own.tok ((0:Nat))))
             (AV.sl ((2:Nat)) (mksL (marksM (metL tick l))) Own.no,[])))):=by kernel_rfl
end Go.Abs
namespace Go.Abs
open Go.Proofs Go.RowKit
/-! sets as lists -/
section
variable {α : Type} [DecidableEq α]
def addU (x:α) (l:List α):List α:=if x ∈ l then l else l ++ [x]
theorem mem_addU {x y:α} {l:List α}:y ∈ addU x l ↔ y = x∨y ∈ l:=by
 unfold addU
 split
 ·constructor
  ·exact .inr
  ·rintro (rfl | h)
   ·assumption
   ·exact h
 ·simp only [List.mem_append,List.mem_singleton]
  exact Or.comm
theorem nodup_addU {x:α} {l:List α} (h:l.Nodup):(addU x l).Nodup:=by
 unfold addU
 split
 ·exact h
 ·rename_i hx
  exact List.nodup_append.2 ⟨h,by simp,by simp; exact fun a ha e=>hx (e ▸ ha)⟩
abbrev setA (k:α→AV) (l:List α):List AV:=l.map fun a=>.tup [k a,.bool true]
theorem put_setA {k:α→AV} (hk:∀ a b,keyEq (k a) (k b) = decide (a = b)) (x:α):∀ l:List α,keptPutM (setA k l) (k x) (.bool true) = setA k (addU x l)
 | []=>by simp [setA,keptPutM,addU]
 | a :: l=>by
  simp only [setA,List.map_cons,keptPutM,hk]
  by_cases e:a = x
  ·subst e; simp [addU]
  ·rw [if_neg (by simpa using e),put_setA hk x l]
   have hne:¬ x = a:=fun h=>e h.symm
   unfold addU
   by_cases hx:x ∈ l
   ·simp [hx,setA]
   ·simp [hx,hne,setA]
theorem look_setA {k:α→AV} (hk:∀ a b,keyEq (k a) (k b) = decide (a = b)) (x:α):∀ l:List α,lookM (setA k l) (k x) = if x ∈ l then some (.bool true) else none
 | []=>rfl
 | a :: l=>by
  simp only [setA,List.map_cons,lookM,hk]
  by_cases e:a = x
  ·subst e; simp
  ·have hne:¬ x = a:=fun h=>e h.symm
   rw [if_neg (by simpa using e),look_setA hk x l]
   simp [hne]
def uniq {β:Type} (f:β→α) (L:List β):List α:=L.foldl (fun m e=>addU (f e) m) []
theorem uniq_acc {β:Type} {f:β→α}:∀ (L:List β) (m:List α),m.Nodup→(L.foldl (fun m e=>addU (f e) m) m).Nodup∧∀ y,y ∈ L.foldl (fun m e=>addU (f e) m) m ↔ y ∈ m∨∃ e ∈ L,f e = y
 | [],m,h=>⟨h,fun y=>by simp⟩
 | e :: L,m,h=>by
  obtain ⟨h1,h2⟩:=uniq_acc (f:=f) L (addU (f e) m) (nodup_addU h)
  refine ⟨h1,fun y=>?_⟩
  simp only [List.foldl_cons]
  rw [h2,mem_addU]
  constructor
  ·rintro ((rfl | hm) | ⟨e',he,rfl⟩)
   ·exact .inr ⟨e,by simp,rfl⟩
   ·exact .inl hm
   ·exact .inr ⟨e',by simp [he],rfl⟩
  ·rintro (hm | ⟨e',he,rfl⟩)
   ·exact .inl (.inr hm)
   ·rcases List.mem_cons.1 he with rfl | he
    ·exact .inl (.inl rfl)
    ·exact .inr ⟨e',he,rfl⟩
theorem uniq_mem {β:Type} {f:β→α} {L:List β} {y:α}:y ∈ uniq f L ↔ ∃ e ∈ L,f e = y:=by
 unfold uniq; rw [(uniq_acc L [] List.nodup_nil).2]; simp
theorem uniq_nodup {β:Type} {f:β→α} {L:List β}:(uniq f L).Nodup:=(uniq_acc L [] List.nodup_nil).1
theorem fold_setA {β:Type} {f:β→α} {k:α→AV} (hk:∀ a b,keyEq (k a) (k b) = decide (a = b)):∀ (L:List β) (m:List α),L.foldl (fun m e=>keptPutM m (k (f e)) (.bool true)) (setA k m) = setA k (L.foldl (fun m e=>addU (f e) m) m)
 | [],m=>rfl
 | e :: L,m=>by
  simp only [List.foldl_cons]
  rw [put_setA hk]
  exact fold_setA hk L _
end
/-! the two maps -/
theorem key_id (a b:List UInt8 × Int):keyEq (idA a.1 a.2) (idA b.1 b.2) = decide (a = b):=by
 obtain ⟨s,n⟩:=a
 obtain ⟨t,q⟩:=b
 simp only [keyEq,decide_true,Bool.true_and]
 by_cases h1:s = t <;> by_cases h2:n = q <;> simp [h1,h2]
theorem key_str (a b:List UInt8):keyEq (.str a) (.str b) = decide (a = b):=by
 simp only [keyEq]
 by_cases h:a = b <;> simp [h]
theorem idsM_eq (L:List EnI):idsM L = setA (fun p:List UInt8 × Int=>idA p.1 p.2) (uniq (fun e:EnI=>(e.f.src,e.f.seq)) L):=fold_setA (f:=fun e:EnI=>(e.f.src,e.f.seq)) key_id L []
theorem srcM_eq (L:List EnI):srcM L = setA AV.str (uniq (fun e:EnI=>e.f.src) L):=fold_setA (f:=fun e:EnI=>e.f.src) key_str L []
theorem keysM_set:∀ l:List (List UInt8),keysM (setA AV.str l) = l
 | []=>rfl
 | a :: l=>by simp only [setA,List.map_cons,keysM]; rw [show keysM (List.map (fun a=>AV.tup [.str a,.bool true]) l) = l from keysM_set l]
theorem look_ids (L:List EnI) (s:List UInt8) (n:Int):lookM (idsM L) (idA s n) = if hasId L s n = true then some (.bool true) else none:=by
 rw [idsM_eq]
 have:=look_setA (k:=fun p:List UInt8 × Int=>idA p.1 p.2) key_id (s,n) (uniq (fun e:EnI=>(e.f.src,e.f.seq)) L)
 simp only at this
 rw [this]
 have e:((s,n) ∈ uniq (fun e:EnI=>(e.f.src,e.f.seq)) L) ↔ hasId L s n = true:=by
  rw [uniq_mem]
  simp only [hasId,List.any_eq_true,Bool.and_eq_true,decide_eq_true_eq,Prod.mk.injEq]
 by_cases h:hasId L s n = true
 ·rw [if_pos h,if_pos (e.2 h)]
 ·rw [if_neg h,if_neg (fun h'=>h (e.1 h'))]
theorem nmsM_eq (L:List EnI):nmsM L = keptSort (uniq (fun e:EnI=>e.f.src) L):=by
 unfold nmsM; rw [srcM_eq,keysM_set]
theorem nms_nodup (L:List EnI):(keysM (srcM L)).Nodup:=by rw [srcM_eq,keysM_set]; exact uniq_nodup
theorem mem_nmsM {L:List EnI} {s:List UInt8}:s ∈ nmsM L ↔ ∃ e ∈ L,e.f.src = s:=by
 rw [nmsM_eq,(keptSort_perm _).mem_iff,uniq_mem]
theorem metL_next {tick:Int} {l:List EnI} {i:Nat} {e:EnI} (h:l[i]? = some e):metL tick (l.take (i + 1)) = metL tick (l.take i) ++ (if relB tick e = true then [e] else []):=by
 obtain ⟨hi,rfl⟩:=List.getElem?_eq_some_iff.1 h
 unfold metL
 rw [List.take_succ_eq_append_getElem hi,List.filter_append]
 generalize l[i] = e
 congr 1
 by_cases hr:relB tick e = true
 ·rw [if_pos hr,List.filter_cons_of_pos hr]; rfl
 ·rw [if_neg hr,List.filter_cons_of_neg hr]; rfl
theorem metL_len (tick:Int) (l:List EnI):(metL tick l).length≤l.length:=List.length_filter_le ..
theorem idsM_snoc (L:List EnI) (e:EnI):idsM (L ++ [e]) = keptPutM (idsM L) (idA e.f.src e.f.seq) (.bool true):=by simp [idsM,List.foldl_append]
theorem srcM_snoc (L:List EnI) (e:EnI):srcM (L ++ [e]) = keptPutM (srcM L) (.str e.f.src) (.bool true):=by simp [srcM,List.foldl_append]
/-! the next number -/
theorem nodup_len {α:Type} [DecidableEq α]:∀ {l m:List α},l.Nodup→(∀ x ∈ l,x ∈ m)→l.length≤m.length
 | [],m,_,_=>Nat.zero_le _
 | x :: l,m,h,hs=>by
  obtain ⟨h1,h2⟩:=List.nodup_cons.1 h
  have hx:=hs x (by simp)
  have:=nodup_len (l:=l) (m:=m.erase x) h2 fun y hy=>(List.mem_erase_of_ne (fun e:y = x=>h1 (by rw [← e]; exact hy))).2 (hs y (by simp [hy]))
  rw [List.length_erase_of_mem hx] at this
  have:=List.length_pos_of_mem hx
  simp; omega
theorem pigeon {L:List EnI} {s:List UInt8} {j:Nat} (h:∀ k:Nat,k < j→hasId L s (k + 1) = true):j≤L.length:=by
 have hsub:∀ x ∈ (List.range j).map fun k:Nat=>(k:Int) + 1,x ∈ L.map fun e=>e.f.seq:=fun x hx=>by
  obtain ⟨k,hk,rfl⟩:=List.mem_map.1 hx
  have:=h k (List.mem_range.1 hk)
  simp only [hasId,List.any_eq_true,Bool.and_eq_true,decide_eq_true_eq] at this
  obtain ⟨e,he,_,h2⟩:=this
  exact List.mem_map.2 ⟨e,he,h2⟩
 have hnd:((List.range j).map fun k:Nat=>(k:Int) + 1).Nodup:=by
  unfold List.Nodup
  rw [List.pairwise_map]
  exact List.nodup_range.imp fun h e=>h (by omega)
 have:=nodup_len hnd hsub
 simpa using this
theorem nextF_go {has:Int→Bool} {k:Nat} {n:Int} (h:has n = true):nextF has (k + 1) n = nextF has k (n + 1):=by simp [nextF,h]
theorem nextF_stop {has:Int→Bool} {k:Nat} {n:Int} (h:has n = false):nextF has k n = n:=by cases k <;> simp [nextF,h]
/-! names in their places -/
theorem insN_ok {s:List UInt8} {l:List (List UInt8)} (h:l.Pairwise (· < ·)):(insN s l).Pairwise (· < ·)∧∀ y,y ∈ insN s l ↔ y = s∨y ∈ l:=by
 have hd:l.takeWhile (fun a=>Op.bytesLess a s) ++ l.dropWhile (fun a=>Op.bytesLess a s) = l:=List.takeWhile_append_dropWhile
 obtain ⟨A,hA⟩:∃ A,l.takeWhile (fun a=>Op.bytesLess a s) = A:=⟨_,rfl⟩
 obtain ⟨B,hB⟩:∃ B,l.dropWhile (fun a=>Op.bytesLess a s) = B:=⟨_,rfl⟩
 have hAs:∀ a ∈ A,a < s:=fun a ha=>by
  have:(fun a=>Op.bytesLess a s) a = true:=List.all_eq_true.1 (List.all_takeWhile (p:=fun a=>Op.bytesLess a s) (l:=l)) a (hA ▸ ha)
  simpa [bytesLess_eq] using this
 have hBh:∀ b,B.head? = some b→¬ b < s:=fun b hb=>by
  have hne:l.dropWhile (fun a=>Op.bytesLess a s) ≠ []:=by rw [hB]; intro e; rw [e] at hb; cases hb
  have:=List.head_dropWhile_not (p:=fun a=>Op.bytesLess a s) (l:=l) hne
  have e:(l.dropWhile (fun a=>Op.bytesLess a s)).head hne = b:=by
   have:(l.dropWhile (fun a=>Op.bytesLess a s)).head? = some b:=by rw [hB]; exact hb
   rw [List.head?_eq_some_head hne] at this
   injection this
  rw [e] at this
  simpa [bytesLess_eq] using this
 rw [hA,hB] at hd
 subst hd
 unfold insN
 simp only [hA]
 rw [List.getElem?_append_right (Nat.le_refl _),Nat.sub_self,List.take_left' rfl,List.drop_left' rfl]
 obtain ⟨p1,p2,p3⟩:=List.pairwise_append.1 h
 cases B with
 | nil =>
  simp only [List.getElem?_nil,List.append_nil]
  rw [if_neg (by simp)]
  exact ⟨List.pairwise_append.2 ⟨p1,by simp,fun a ha b hb=>by simp at hb; subst hb; exact hAs a ha⟩,fun y=>by simp [or_comm]⟩
 | cons b B =>
  simp only [List.getElem?_cons_zero,Option.some.injEq]
  have hb:=hBh b rfl
  by_cases e:b = s
  ·subst e
   rw [if_pos rfl]
   exact ⟨h,fun y=>by simp; intro h; right; left; exact h⟩
  ·rw [if_neg e]
   have hsb:s < b:=by
    by_cases h':s < b
    ·exact h'
    ·exact absurd (List.le_antisymm (List.not_lt.1 h') (List.not_lt.1 hb)) e
   obtain ⟨p4,p5⟩:=List.pairwise_cons.1 p2
   refine ⟨?_,fun y=>by simp only [List.mem_append,List.mem_cons,List.not_mem_nil,or_false]; rw [@Or.comm (y ∈ A),or_assoc]⟩
   rw [List.append_assoc]
   refine List.pairwise_append.2 ⟨p1,?_,fun a ha c hc=>?_⟩
   ·simp only [List.singleton_append]
    exact List.pairwise_cons.2 ⟨fun c hc=>by
     rcases List.mem_cons.1 hc with rfl | hc
     ·exact hsb
     ·exact List.lt_trans hsb (p4 c hc),p2⟩
   ·simp only [List.singleton_append,List.mem_cons] at hc
    rcases hc with rfl | hc
    ·exact hAs a ha
    ·exact p3 a ha c (by simpa using hc)
theorem nmsR_acc:∀ (L:List EnI) (m:List (List UInt8)),m.Pairwise (· < ·)→(L.foldl (fun m e=>insN e.f.src m) m).Pairwise (· < ·)∧∀ y,y ∈ L.foldl (fun m e=>insN e.f.src m) m ↔ y ∈ m∨∃ e ∈ L,e.f.src = y
 | [],m,h=>⟨h,fun y=>by simp⟩
 | e :: L,m,h=>by
  obtain ⟨a1,a2⟩:=insN_ok (s:=e.f.src) h
  obtain ⟨h1,h2⟩:=nmsR_acc L _ a1
  refine ⟨h1,fun y=>?_⟩
  simp only [List.foldl_cons]
  rw [h2,a2]
  constructor
  ·rintro ((rfl | hm) | ⟨e',he,rfl⟩)
   ·exact .inr ⟨e,by simp,rfl⟩
   ·exact .inl hm
   ·exact .inr ⟨e',by simp [he],rfl⟩
  ·rintro (hm | ⟨e',he,rfl⟩)
   ·exact .inl (.inr hm)
   ·rcases List.mem_cons.1 he with rfl | he
    ·exact .inl (.inl rfl)
    ·exact .inr ⟨e',he,rfl⟩
theorem nmsR_sorted (L:List EnI):(nmsR L).Pairwise (· < ·):=(nmsR_acc L [] List.Pairwise.nil).1
theorem nmsR_eq (L:List EnI):nmsR L = nmsM L:=by
 have h1:=nmsR_sorted L
 have h2:∀ y,y ∈ nmsR L ↔ ∃ e ∈ L,e.f.src = y:=fun y=>by
  have:=(nmsR_acc L [] List.Pairwise.nil).2 y
  simpa [nmsR] using this
 have hnd:(nmsR L).Nodup:=h1.imp fun h e=>by subst e; exact List.lt_irrefl _ h
 have hnd2:(nmsM L).Nodup:=by rw [nmsM_eq]; exact (keptSort_perm _).nodup_iff.2 uniq_nodup
 refine List.Perm.eq_of_pairwise (le:=fun a b=>leB a b = true) (fun a b _ _ h1 h2=>?_) (h1.imp fun h=>?_) (by rw [nmsM_eq]; exact keptSort_sorted _) ((List.perm_ext_iff_of_nodup hnd hnd2).2 fun y=>by rw [h2,mem_nmsM])
 ·simp only [leB,decide_eq_true_eq] at h1 h2
  exact List.le_antisymm h1 h2
 ·simp only [leB,decide_eq_true_eq]
  exact List.le_of_lt h
theorem nmsR_len (L:List EnI):(nmsR L).length≤L.length:=by
 rw [nmsR_eq,nmsM_eq,(keptSort_perm _).length_eq]
 have hsub:∀ x ∈ uniq (fun e:EnI=>e.f.src) L,x ∈ L.map fun e=>e.f.src:=fun x hx=>by
  obtain ⟨e,he,rfl⟩:=uniq_mem.1 hx
  exact List.mem_map.2 ⟨e,he,rfl⟩
 have:=nodup_len uniq_nodup hsub
 simpa using this
theorem agg63:aggA PI 89 = some true:=by kernel_rfl
theorem size63:sizeA PI 89 = some 40:=by kernel_rfl
theorem agg30:aggA PI 26 = some true:=by kernel_rfl
theorem size30:sizeA PI 26 = some 2:=by kernel_rfl
theorem agg3i:aggA PI 3 = some false:=by kernel_rfl
theorem size3i:sizeA PI 3 = some 1:=by kernel_rfl
theorem size9i:sizeA PI 9 = some 1:=by kernel_rfl
theorem take_en {l:List EnI} {i:Nat} {e:EnI} (h:l[i]? = some e):takeAt PI 89 (ensL l) i 0 = some (enA e):=by
 simp only [takeAt,List.getElem?_map,h,Option.map_some,takeA,agg63,size63]
 rfl
theorem take_str9 {l:List (List UInt8)} {i:Nat} {s:List UInt8} (h:l[i]? = some s):takeAt PI 9 (l.map AV.str) i 0 = some (.str s):=by
 simp only [takeAt,List.getElem?_map,h,Option.map_some,takeA,agg9,size9i]
 rfl
theorem unE_inv (a:AV) (x:EnI) (h:unE a = some x):a = enA x:=by
 unfold unE at h
 split at h
 ·rename_i tick kind src seq k2 ref table key event sz es rest
  split at h
  ·rename_i hc
   obtain ⟨rfl,hl,ho⟩:=hc
   cases hu:unL unV es with
   | none=>rw [hu] at h; cases h
   | some fs =>
    rw [hu] at h
    injection h with h; subst h
    rw [unL_inv unV_inv hu]
    have:rest = List.replicate 29 .opq:=List.eq_replicate_iff.2 ⟨hl,fun b hb=>by
     have:=List.all_eq_true.1 ho b hb
     cases b <;> simp [isOpq] at this ⊢⟩
    rw [this]
    rfl
  ·cases h
 ·cases h
theorem unEs_inv {es:List AV} {l:List EnI} (h:unL unE es = some l):es = ensL l:=unL_inv unE_inv h
theorem rel_no {tick:Int} {e:EnI} (h:¬ (e.kind = 1∧e.tick≤tick)):relB tick e = false:=by
 cases hr:relB tick e with
 | false=>rfl
 | true=>simp only [relB,Bool.and_eq_true,decide_eq_true_eq] at hr; exact absurd hr h
theorem rel_yes {tick:Int} {e:EnI} (h1:e.kind = 1) (h2:e.tick≤tick):relB tick e = true:=by simp [relB,h1,h2]
theorem met_skip {tick:Int} {l:List EnI} {i:Nat} {e:EnI} (h:l[i]? = some e) (hr:relB tick e = false):metL tick (l.take (i + 1)) = metL tick (l.take i):=by
 rw [metL_next h,hr]; simp
theorem met_add {tick:Int} {l:List EnI} {i:Nat} {e:EnI} (h:l[i]? = some e) (hr:relB tick e = true):metL tick (l.take (i + 1)) = metL tick (l.take i) ++ [e]:=by
 rw [metL_next h,hr]; simp
theorem keyIs_id {s:List UInt8} {n:Int} (h1:s.length≤100000000) (h2:-9223372036854775808≤n) (h3:n≤9223372036854775807):KeyIs PI 26 (idA s n):=by
 have hp:pairKey PI 26 = some .i64:=by kernel_rfl
 have hw:(Lit.int .i64 n).wf = true:=by
  simp only [Lit.wf,IntKind.min,IntKind.max,IntKind.signed,IntKind.bits,Bool.and_eq_true,decide_eq_true_eq,if_true]
  exact ⟨by omega,by omega⟩
 refine ⟨?_⟩
 unfold keyL
 simp only [hp]
 rw [if_pos ⟨trivial,hw,by unfold maxLen; omega⟩]; rfl
theorem keyIs_str {s:List UInt8} (h1:s.length≤100000000):KeyIs PI 9 (.str s):=by
 have hk:PI.underlying 9 = some .string:=by kernel_rfl
 refine ⟨?_⟩
 simp only [keyL,hk]
 rw [if_pos (by unfold maxLen; omega)]; rfl
theorem idsOk_at {l:List EnI} (h:idsOk l = true) {e:EnI} (he:e ∈ l):e.f.src.length≤100000000∧-9223372036854775808≤e.f.seq∧e.f.seq≤9223372036854775807:=by
 have:=List.all_eq_true.1 h e he
 simp only [Bool.and_eq_true,decide_eq_true_eq] at this
 exact ⟨this.1.1,this.1.2,this.2⟩
theorem p15 (m:Int) (l:List EnI) (tick:Int) (hl:l.length≤2000000) (hi:idsOk l = true):LaxOk PI (GI m) XMa (tbl []) (itbl [(50,s41),(49,s40)]) (a15 l tick) [] 28 [.sl 40 (ensL l) .no,.int .i64 tick] (.sl 2 (mksL (marksM (metL tick l))) .no,[]):=by
 constructor
 rw [w15]
 have hll:(ensL l).length = l.length:=List.length_map ..
 have hml:∀ n,(metL tick (l.take n)).length≤2000000:=fun n=>by
  have h1:=metL_len tick (l.take n)
  have h2:(l.take n).length≤l.length:=by rw [List.length_take]; omega
  omega
 have hmL:(metL tick l).length≤2000000:=by have:=metL_len tick l; omega
 refine ⟨⟨0,⟨by rw [hll]; rfl⟩,⟨rfl⟩,Nat.zero_le _,trivial⟩,fun i hil=>⟨fun hlt=>?_,fun hge=>?_⟩⟩
 ·have hlt:=of_decide_eq_true hlt
  have hil:i < l.length:=by omega
  have he:=List.getElem?_eq_getElem hil
  have hb:(0:Int)≤i∧(i:Int) < (ensL l).length:=⟨by omega,by rw [hll]; exact hlt⟩
  have ho:=idsOk_at hi (List.getElem_mem hil)
  refine ⟨hb,_,_,_,_,_,_,_,_,_,_,by rw [Int.toNat_natCast]; exact take_en he,fun h1=>⟨fun h2=>⟨trivial,keyIs_id ho.1 ho.2.1 ho.2.2,val_true,by omega,by have:=hml i; omega,trivial,keyIs_str ho.1,val_true,by omega,by have:=hml i; omega,?_⟩,fun h2=>?_⟩,fun h1=>?_⟩
  ·have hr:relB tick l[i] = true:=rel_yes (by simpa using h1) (by simpa using h2)
   refine ⟨i + 1,⟨by rw [wrapN (by omega)]⟩,⟨?_⟩,hil,by omega⟩
   rw [met_add he hr,idsM_snoc,srcM_snoc]
   simp only [List.length_append,List.length_cons,List.length_nil,Int.natCast_add]
   rfl
  ·exact ⟨i + 1,⟨by rw [wrapN (by omega)]⟩,⟨by rw [met_skip he (rel_no fun h=>by have:=of_decide_eq_false h2; exact this h.2)]⟩,hil,by omega⟩
  ·exact ⟨i + 1,⟨by rw [wrapN (by omega)]⟩,⟨by rw [met_skip he (rel_no fun h=>by simp [h.1] at h1)]⟩,hil,by omega⟩
 ·have hge:=of_decide_eq_false hge
  have hx:l.take i = l:=List.take_of_length_le (by omega)
  rw [hx]
  have hnl:(nmsM (metL tick l)).length≤2000000:=by rw [← nmsR_eq]; have:=nmsR_len (metL tick l); omega
  have hmk:∀ n,n≤(nmsM (metL tick l)).length→((marksM (metL tick l)).take n).length = n:=fun n hn=>by simp [marksM]; omega
  have hmk2:∀ n,n≤(nmsM (metL tick l)).length→(mksL ((marksM (metL tick l)).take n)).length = n:=fun n hn=>by simp [marksM]; omega
  refine ⟨trivial,⟨nms_nodup _,by omega⟩,⟨0,⟨by rw [List.length_map]; rfl⟩,⟨rfl⟩,Nat.zero_le _,trivial⟩,fun x hx=>⟨fun hlt=>?_,fun hge=>?_⟩⟩
  ·have hlt:=of_decide_eq_true hlt
   have hxl:x < (nmsM (metL tick l)).length:=by omega
   have hs:=List.getElem?_eq_getElem hxl
   have hsl:∀ s,s ∈ nmsM (metL tick l)→s.length≤100000000:=fun s hs=>by
    obtain ⟨e,he,rfl⟩:=mem_nmsM.1 hs
    exact (idsOk_at hi (List.mem_filter.1 he).1).1
   refine ⟨⟨by omega,by rw [List.length_map]; exact hlt⟩,_,by rw [Int.toNat_natCast]; exact take_str9 hs,⟨⟨x,0,_⟩,⟨rfl⟩,⟨rfl⟩,⟨hs,Nat.zero_le _,fun k hk=>absurd hk (Nat.not_lt_zero _),rfl⟩,rfl⟩,fun z hz hzx=>?_⟩
   obtain ⟨i,j,s⟩:=z
   simp only at hz hzx ⊢
   obtain ⟨hzs,hzj,hzh,hzn⟩:=hz
   have hix:x = i:=by
    have h:(x:Int) = i:=by simpa using hzx
    omega
   subst hix
   rw [hs] at hzs
   injection hzs with hzs
   have hsm:s ∈ nmsM (metL tick l):=hzs ▸ List.getElem_mem hxl
   have hjl:j≤2000000:=by omega
   refine ⟨keyIs_id (hsl s hsm) (by omega) (by omega),hasId (metL tick l) s ((j:Int) + 1),⟨by rw [look_ids]; cases hasId (metL tick l) s ((j:Int) + 1) <;> rfl⟩,fun hb=>?_,fun hb=>?_⟩
   ·have hj2:j + 1≤(metL tick l).length:=pigeon (s:=s) fun k hk=>by
     rcases Nat.lt_or_eq_of_le (Nat.lt_succ_iff.1 hk) with h | h
     ·exact hzh k h
     ·subst h; exact hb
    refine ⟨⟨x,j + 1,s⟩,⟨rfl⟩,⟨?_⟩,⟨by rw [hs,hzs],hj2,fun k hk=>?_,?_⟩,rfl,by show (metL tick l).length - (j + 1) < (metL tick l).length - j; omega⟩
    ·rw [show (j:Int) + 1 + 1 = ((j + 1:Nat):Int) + 1 by omega,wrapN (by omega)]
     rfl
    ·show hasId (metL tick l) s ((k:Int) + 1) = true
     rcases Nat.lt_or_eq_of_le (Nat.lt_succ_iff.1 hk) with h | h
     ·exact hzh k h
     ·subst h; exact hb
    ·show nextF (hasId (metL tick l) s) ((metL tick l).length - (j + 1)) (((j + 1:Nat):Int) + 1) = nextM (metL tick l) s
     rw [← hzn,show (metL tick l).length - j = ((metL tick l).length - (j + 1)) + 1 by omega,nextF_go hb]
     rfl
   ·have hnx:nextM (metL tick l) s = (j:Int) + 1:=by rw [← hzn]; exact nextF_stop hb
    have hlen:(marksM (metL tick l)).length = (nmsM (metL tick l)).length:=by simp [marksM]
    have hxm:x < (marksM (metL tick l)).length:=by omega
    have hmx:(marksM (metL tick l))[x] = ⟨s,(j:Int) + 1⟩:=by
     simp only [marksM,List.getElem_map,mkOf]
     rw [hzs,hnx]
    refine ⟨.inl trivial,by rw [hmk2 _ hx]; omega,by rw [hmk _ hx,hmk2 _ hx],x + 1,⟨?_⟩,⟨?_⟩,hxl,by omega⟩
    ·rw [wrapN (by omega),List.take_succ_eq_append_getElem hxm,hmx]
     simp only [List.map_append,List.map_cons,List.map_nil]
     rfl
    ·rw [hmk2 _ hx,hmk _ hxl]
  ·have hge:=of_decide_eq_false hge
   have hxl:x = (nmsM (metL tick l)).length:=by omega
   have:(marksM (metL tick l)).take x = marksM (metL tick l):=List.take_of_length_le (by simp [marksM]; omega)
   rw [this]
   exact ⟨⟨rfl,rfl,.inl rfl⟩,rfl,rfl⟩
theorem o15 (m:Int):SpecOk PI (GI m) 28 s15:=lax_of (X:=XMa) (m:=[]) mixedI tbl_nil (itbl_cons (o41 m) (itbl_cons (o40 m) itbl_nil)) fun args r h=>by
 unfold s15 at h
 split at h
 case h_2=>cases h
 split at h
 case isFalse=>cases h
 rename_i hc
 obtain ⟨rfl,hl⟩:=hc
 split at h
 case h_2=>cases h
 rename_i l hu
 obtain rfl:=unEs_inv hu
 split at h
 case isFalse=>cases h
 rename_i hi
 injection h with h; subst h
 rw [List.length_map] at hl
 exact ⟨_,p15 m l _ hl hi⟩
theorem SpecOk.wkG {P:Program} {G:Glob} {f:FuncId} {s:Spec} (hs:SpecOk P G f s) {g:AV→AV} (hr:∀ {E:Env} {w:World} {a:AV} {v:Value},Rep E w a v→Rep E w (g a) v) (hc:∀ {a:AV},a.closed1 = true→(g a).closed1 = true):SpecOk P G f fun args=>s (args.map g):=by
 intro f' args r lv hrr E w vs hI hG hn hv hcl
 refine hs f' (args.map g) r lv hrr E w vs hI hG (by simpa using hn) (fun i c v hi hv'=>?_) fun c hc'=>?_
 ·rw [List.getElem?_map] at hi
  cases ha:args[i]? with
  | none=>rw [ha] at hi; cases hi
  | some a =>
   rw [ha] at hi
   injection hi with hi; subst hi
   exact hr (hv i a v ha hv')
 ·obtain ⟨a,ha,rfl⟩:=List.mem_map.1 hc'
  exact hc (hcl a ha)
def wkN:AV→AV
 | .sl sz es _=>.sl sz es .no
 | a=>a
theorem wkN_rep {E:Env} {w:World} {a:AV} {v:Value} (h:Rep E w a v):Rep E w (wkN a) v:=by
 unfold wkN
 split
 ·cases h with
  | sl _ _ _ A cap u hcap hmax hA hsz hcl ho hr h1=>exact .sl _ _ .no A cap u hcap hmax hA hsz hcl trivial hr h1
 ·exact h
theorem wkN_closed {a:AV} (h:a.closed1 = true):(wkN a).closed1 = true:=by
 unfold wkN
 split
 ·rfl
 ·exact h
def wkCs:List AV→List AV
 | _ :: a :: b :: c :: d :: e :: f :: g :: h :: i :: j :: l=>.opq :: a :: b :: c :: d :: e :: f :: g :: h :: i :: wk0 j :: l.map fun _=>.opq
 | l=>l
def wkEn:AV→AV
 | .agg cs=>.agg (wkCs cs)
 | a=>a
def wkEs:AV→AV
 | .sl sz es _=>.sl sz (es.map wkEn) .no
 | a=>a
theorem wkCs_len (cs:List AV):(wkCs cs).length = cs.length:=by
 unfold wkCs
 split
 ·simp
 ·rfl
theorem wkCs_at {cs:List AV} {i:Nat} {c:AV} (h:(wkCs cs)[i]? = some c):∃ d,cs[i]? = some d∧(c = d∨c = .opq∨c = wk0 d):=by
 unfold wkCs at h
 split at h
 ·match i,h with
  | 0,h=>simp at h; subst h; exact ⟨_,rfl,.inr (.inl rfl)⟩
  | 1,h=>simp at h; subst h; exact ⟨_,rfl,.inl rfl⟩
  | 2,h=>simp at h; subst h; exact ⟨_,rfl,.inl rfl⟩
  | 3,h=>simp at h; subst h; exact ⟨_,rfl,.inl rfl⟩
  | 4,h=>simp at h; subst h; exact ⟨_,rfl,.inl rfl⟩
  | 5,h=>simp at h; subst h; exact ⟨_,rfl,.inl rfl⟩
  | 6,h=>simp at h; subst h; exact ⟨_,rfl,.inl rfl⟩
  | 7,h=>simp at h; subst h; exact ⟨_,rfl,.inl rfl⟩
  | 8,h=>simp at h; subst h; exact ⟨_,rfl,.inl rfl⟩
  | 9,h=>simp at h; subst h; exact ⟨_,rfl,.inl rfl⟩
  | 10,h=>simp at h; subst h; exact ⟨_,rfl,.inr (.inr rfl)⟩
  | i + 11,h =>
   simp only [List.getElem?_cons_succ,List.getElem?_map,Option.map_eq_some_iff] at h
   obtain ⟨d,h1,h2⟩:=h
   exact ⟨d,by simpa using h1,.inr (.inl h2.symm)⟩
 ·exact ⟨c,h,.inl rfl⟩
theorem wkEn_cells {a:AV} {j:Nat} {c:AV} (h:(wkEn a).cells[j]? = some c):∃ d,a.cells[j]? = some d∧(c = d∨c = .opq∨c = wk0 d):=by
 unfold wkEn at h
 split at h
 ·exact wkCs_at h
 ·exact ⟨c,h,.inl rfl⟩
theorem wkEn_len (a:AV):(wkEn a).cells.length = a.cells.length:=by
 unfold wkEn
 split
 ·exact wkCs_len _
 ·rfl
theorem wkEn_closed {a:AV} (h:a.closed1 = true):(wkEn a).closed1 = true:=by
 unfold wkEn
 split
 ·rename_i cs
  simp only [AV.closed1,List.all_eq_true] at h ⊢
  intro c hc
  obtain ⟨i,hi⟩:=List.mem_iff_getElem?.1 hc
  obtain ⟨d,h1,h2⟩:=wkCs_at hi
  have hd:=h d (List.mem_of_getElem? h1)
  rcases h2 with rfl | rfl | rfl
  ·exact hd
  ·rfl
  ·exact wk0_closed hd
 ·exact h
theorem wkEs_rep {E:Env} {w:World} {a:AV} {v:Value} (h:Rep E w a v):Rep E w (wkEs a) v:=by
 unfold wkEs
 split
 ·cases h with
  | sl sz' es' _ A cap u hcap hmax hA hsz hcl ho hr h1 =>
   rename_i sz es o
   have hel:∀ (i:Nat) (e:AV),(es.map wkEn)[i]? = some e→∃ e0,es[i]? = some e0∧e = wkEn e0:=fun i e he=>by
    rw [List.getElem?_map] at he
    cases h0:es[i]? with
    | none=>rw [h0] at he; cases he
    | some e0=>rw [h0] at he; injection he with he; exact ⟨e0,rfl,he.symm⟩
   have hlen:(es.map wkEn).length = es.length:=List.length_map ..
   rw [← hlen]
   refine .sl sz _ .no A cap u (by rw [hlen]; exact hcap) hmax ?_ ?_ ?_ trivial ?_ h1
   ·rcases hA with rfl | ⟨b,off,rfl,hA⟩
    ·exact .inl rfl
    ·refine .inr ⟨b,off,rfl,fun i e j c hi hj=>?_⟩
     obtain ⟨e0,h0,rfl⟩:=hel i e hi
     obtain ⟨d,h2,_⟩:=wkEn_cells hj
     exact hA i e0 j d h0 h2
   ·intro e he
    obtain ⟨e0,h0,rfl⟩:=List.mem_map.1 he
    rw [wkEn_len]; exact hsz e0 h0
   ·intro e he
    obtain ⟨e0,h0,rfl⟩:=List.mem_map.1 he
    exact wkEn_closed (hcl e0 h0)
   ·intro i e j c hi hj
    obtain ⟨e0,h0,rfl⟩:=hel i e hi
    obtain ⟨d,h2,h3⟩:=wkEn_cells hj
    have hd:=hr i e0 j d h0 h2
    rcases h3 with rfl | rfl | rfl
    ·exact hd
    ·exact .opq _ (h1 i j)
    ·exact wk0_rep hd
 ·exact h
theorem wkEs_closed {a:AV} (h:a.closed1 = true):(wkEs a).closed1 = true:=by
 unfold wkEs
 split
 ·rfl
 ·exact h
def s15x:Spec:=fun args=>s15 (args.map wkEs)
theorem o15x (m:Int):SpecOk PI (GI m) 28 s15x:=(o15 m).wkG (g:=wkEs) wkEs_rep wkEs_closed
def s14x:Spec:=fun args=>s14 (args.map wkN)
theorem o14x (m:Int):SpecOk PI (GI m) 32 s14x:=(o14 m).wkG (g:=wkN) wkN_rep wkN_closed
def s21x:Spec:=fun args=>s21 (args.map wk1)
theorem o21x (m:Int):SpecOk PI (GI m) 13 s21x:=(o21 m).wk
def s23x:Spec:=fun args=>s23 (args.map wk1)
theorem o23x (m:Int):SpecOk PI (GI m) 18 s23x:=(o23 m).wk
noncomputable abbrev tEx:List (FuncId × Spec):=[(29,s10w),(15,s12w),(32,s14x),(28,s15x),(9,s20),(13,s21x),(16,s22),(18,s23x),(30,s24)]
theorem tEx_ok (m:Int):CalleeOk PI (GI m) (tbl tEx):=tbl_cons (o10w m) (tbl_cons (o12w m) (tbl_cons (o14x m) (tbl_cons (o15x m) (tbl_cons (o20 m) (tbl_cons (o21x m) (tbl_cons (o22 m) (tbl_cons (o23x m) (tbl_cons (o24 m) tbl_nil))))))))
theorem run7 (m:Int):(evs PI (GI m) (tbl tEx) (fun _=>[]) 9).1 7 [] = some (.bool true,[]):=by kernel_rfl
theorem o7 (m:Int):SpecOk PI (GI m) 7 s7:=spec_run mixedI (tEx_ok m) fun args r h=>by
 unfold s7 at h
 split at h
 case h_2=>cases h
 injection h with h; subst h
 exact ⟨9,run7 m⟩
end Go.Abs
namespace Go.Abs
open Go.Proofs
def z61:Spec:=fun args=>match args with
 | [.sl sz es .no,.sl sz2 es2 .no]=>if sz = 3∧sz2 = 3 then (match unL unV es,unL unV es2 with
  | some a,some b=>if a.length≤140737488351232 then some (.bool (decide (a = b)),[]) else none
  | _,_=>none) else none
 | _=>none
def z38:Spec:=fun args=>match args with
 | [a,b]=>match unG a,unG b with
  | some f,some g=>if f.fs.length≤140737488351232 then some (.bool (decide (f = g)),[]) else none
  | _,_=>none
 | _=>none
def fcsOk (l:List FcI):Bool:=l.all fun f=>decide (f.src.length≤140737488351232) && decide (f.table.length≤140737488351232) && decide (f.key.length≤140737488351232) && decide (f.fs.length≤140737488351232)
def z35:Spec:=fun args=>match args with
 | [.sl sz es .no,.sl sz2 es2 .no]=>if sz = 8∧sz2 = 8 then (match unL unG es,unL unG es2 with
  | some a,some b=>if a.length≤2000000∧(a.all fun f=>decide (f.fs.length≤140737488351232)) = true then some (.bool (decide (a = b)),[]) else none
  | _,_=>none) else none
 | _=>none
def unS:AV→Option SdI
 | .agg [.str nm,.int .i64 nx,.sl sz es .no]=>if sz = 8 then (unL unG es).map fun l=>⟨nm,nx,l⟩ else none
 | _=>none
def z11:Spec:=fun args=>match args with
 | [a,b]=>match unS a,unS b with
  | some s,some t=>if s.l.length≤2000000∧(s.l.all fun f=>decide (f.fs.length≤140737488351232)) = true then some (.bool (decide (s = t)),[]) else none
  | _,_=>none
 | _=>none
def unK:AV→Option PkI
 | .agg [.str src,.bool ack,.int .i64 next,.str fsrc,.int .i64 seq,.int .i64 kind,.int .i64 ref,.str table,.str key,.int .i64 event,.sl sz es .no]=>if sz = 3 then (unL unV es).map fun fs=>⟨src,ack,next,⟨fsrc,seq,kind,ref,table,key,event,fs⟩⟩ else none
 | _=>none
def z15:Spec:=fun args=>match args with
 | [a,b]=>match unK a,unK b with
  | some p,some q=>if p.f.fs.length≤140737488351232 then some (.bool (decide (p = q)),[]) else none
  | _,_=>none
 | _=>none
def srcP (s:List UInt8):SdI × Int:=if nameR s then (⟨s,1,[]⟩,0) else (⟨[],0,[]⟩,1)
def z10:Spec:=fun args=>match args with
 | [.str s]=>if s.length≤2000000 then some (.tup [sdA (srcP s).1,.int .i64 (srcP s).2],[]) else none
 | _=>none
def z14:Spec:=fun args=>match args with
 | [.agg [.str nm,.int .i64 nx,.sl sz es .no],.agg [.str src,.int .i64 seq,.int .i64 kind,.int .i64 ref,.str table,.str key,.int .i64 event,.sl sz2 es2 .no]] =>
  if sz = 8∧sz2 = 3∧es.length≤2000000∧-4611686018427387904≤nx then (match unL unG es,unL unV es2 with
   | some l,some fs=>some (.tup [sdA (subP ⟨nm,nx,l⟩ ⟨src,seq,kind,ref,table,key,event,fs⟩).1,pkA (subP ⟨nm,nx,l⟩ ⟨src,seq,kind,ref,table,key,event,fs⟩).2.1,.int .i64 (subP ⟨nm,nx,l⟩ ⟨src,seq,kind,ref,table,key,event,fs⟩).2.2],[])
   | _,_=>none) else none
 | _=>none
def resR (nm:List UInt8) (l:List FcI):List PkI:=l.map fun f=>⟨nm,false,0,f⟩
def z17:Spec:=fun args=>match args with
 | [.agg [.str nm,.int .i64 _,.sl sz es .no]] =>
  if sz = 8∧es.length≤2000000 then (match unL unG es with
   | some l=>some (.sl 11 (pksL (resR nm l)) .no,[])
   | none=>none) else none
 | _=>none
def z19:Spec:=fun args=>match args with
 | [.agg [.str nm,.int .i64 nx,.sl sz es .no],.agg [.str src,.bool ack,.int .i64 n,.str _,.int .i64 _,.int .i64 _,.int .i64 _,.str _,.str _,.int .i64 _,.sl sz2 _ .no]] =>
  if sz = 8∧sz2 = 3∧es.length≤2000000 then (match unL unG es with
   | some l=>some (.tup [sdA (ackP ⟨nm,nx,l⟩ src ack n).1,.int .i64 (ackP ⟨nm,nx,l⟩ src ack n).2],[])
   | none=>none) else none
 | _=>none
def chkS (nm:List UInt8):Int→List FcI→Bool
 | _,[]=>true
 | k,f :: l=>decide (f.src = nm) && decide (f.seq = k) && decide (1≤k) && chkS nm (k + 1) l
def sndOk (s:SdI):Bool:=nameR s.nm && decide (1≤s.nx) && decide (s.nx≤maxT + 1) && decide (s.l.length≤64) && chkS s.nm (s.nx - s.l.length) s.l
def z25:Spec:=fun args=>match args with
 | [a]=>match unS a with
  | some s=>if s.nm.length≤140737488351232∧s.l.length≤140737488351232 then some (.bool (sndOk s),[]) else none
  | none=>none
 | _=>none
def z12:Spec:=fun args=>match args with
 | [a]=>match unS a with
  | some s=>if s.nm.length≤140737488351232∧s.l.length≤140737488351232∧fcsOk s.l = true then some (.bool (decide (s.l.length≤64) && s.l.all smallB && sndOk s),[]) else none
  | none=>none
 | _=>none
abbrev shSd:Sh × Option TypeId:=(.tup [.agg [.str,.int .i64,.sl 8 .no],.one (.int .i64)],none)
abbrev shPk:Sh × Option TypeId:=(.val (.agg [.str,.bool,.int .i64,.str,.int .i64,.int .i64,.int .i64,.str,.str,.int .i64,.sl 3 .no]),none)
def XSe:Shapes:=fun f=>match f with
 | 33 | 34 | 7 | 8 | 11 | 12 | 15 | 25 | 35 | 38 | 61=>some shB
 | 9 | 10 | 18 | 19=>some shSd
 | 13 | 14=>some (.tup [.agg [.str,.int .i64,.sl 8 .no],.agg [.str,.bool,.int .i64,.str,.int .i64,.int .i64,.int .i64,.str,.str,.int .i64,.sl 3 .no],.one (.int .i64)],none)
 | 16 | 17=>some (.val (.one (.sl 11 .no)),none)
 | 2000029=>some shFc
 | 2000031=>some shPk
 | _=>none
def az61 (a b:List VaI):Anns:=⟨fun k=>if k = 4 then some { α:=Nat,slots:=[0,1,5],nb:=0,vals:=fun n=>[.sl 3 (vasL a) .no,.sl 3 (vasL b) .no,.int .i64 n],sS:=fun _=>⟨[],[]⟩,I:=fun n=>n≤a.length∧a.take n = b.take n,μ:=fun n=>a.length - n } else none,nA⟩
def az35 (a b:List FcI):Anns:=⟨fun k=>if k = 4 then some { α:=Nat,slots:=[0,1,5],nb:=0,vals:=fun n=>[.sl 8 (fcsL a) .no,.sl 8 (fcsL b) .no,.int .i64 n],sS:=fun _=>⟨[],[]⟩,I:=fun n=>n≤a.length∧a.take n = b.take n,μ:=fun n=>a.length - n } else none,nA⟩
def az25 (s:SdI):Anns:=⟨fun k=>if k = 4 then some { α:=Nat,slots:=[1,3],nb:=1,vals:=fun n=>[.ptr 0 0,.int .i64 n],sS:=fun _=>⟨[some (sdC s.nm s.nx 8 (fcsL s.l))],[]⟩,I:=fun n=>n≤s.l.length∧chkS s.nm (s.nx - s.l.length) s.l = chkS s.nm (s.nx - s.l.length + n) (s.l.drop n),μ:=fun n=>s.l.length - n } else none,nA⟩
def az12 (s:SdI):Anns:=⟨fun k=>if k = 4 then some { α:=Nat,slots:=[1,3],nb:=1,vals:=fun n=>[.ptr 0 0,.int .i64 n],sS:=fun _=>⟨[some (sdC s.nm s.nx 8 (fcsL s.l))],[]⟩,I:=fun n=>n≤s.l.length∧(s.l.take n).all smallB = true,μ:=fun n=>s.l.length - n } else none,nA⟩
def az17 (nm:List UInt8) (nx:Int) (l:List FcI):Anns:=⟨fun k=>if k = 3 then some { α:=Nat,slots:=[1,3,4],nb:=1,vals:=fun n=>[.ptr 0 0,.sl 11 (pksL (resR nm (l.take n))) (.tok 0),.int .i64 n],sS:=fun n=>⟨[some (sdC nm nx 8 (fcsL l))],[((resR nm (l.take n)).length,31)]⟩,I:=fun n=>n≤l.length,μ:=fun n=>l.length - n,mint:=[(3,31)] } else none,nA⟩
def az19 (nm _src:List UInt8) (nx:Int) (l:List FcI) (pk:List AV) (pn:Int):Anns:=⟨fun k=>if k = 5 then some { α:=Nat,slots:=[2,3,4,6,7],nb:=4,vals:=fun n=>[.ptr 0 0,.ptr 1 0,.ptr 2 0,.ptr 3 0,.int .i64 n],sS:=fun n=>⟨[some (sdC nm nx 8 (fcsL l)),some pk,some sdZ,some [.str nm,.int .i64 nx,.sl 8 (fcsL ((l.take n).filter (keepF pn))) (.tok 0)]],[((((l.take n).filter (keepF pn))).length,29)]⟩,I:=fun n=>n≤l.length,μ:=fun n=>l.length - n,mintB:=[(2003,29)] } else none,nA⟩
end Go.Abs
