/- Own texts, part 7. -/
import Derived.Test.YtpglogahncpnoaaPart6

namespace Go.Abs
open Go.Proofs
theorem w47 (m:Int) (nm src fsrc tab key:List UInt8) (nx pn seq kind ref ev:Int) (ack:Bool) (l1 es fs:List AV) (f1 f5 f6:List UInt8) (f2 f3 f4 f7:Int) (f8:List AV):(openW PI (GI m) XK (tbl []) (itbl []) nAn [] 47 [.agg [.str f1,.int .i64 f2,.int .i64 f3,.int .i64 f4,.str f5,.str f6,.int .i64 f7,.sl 3 f8 .no],.ptr 1 0] ⟨[some (sdC nm nx 8 l1),some (pkD src ack pn fsrc seq kind ref tab key ev fs),some sdZ,some (ownC 8 es)],[]⟩ (.bool (decide (f2 < pn)),⟨[some (sdC nm nx 8 l1),some (pkD src ack pn fsrc seq kind ref tab key ev fs),some sdZ,some (ownC 8 es)],[]⟩)) =
((decide (f2 < pn) = true →
    RetOpen
      (AV.p2 (4:Nat) (AV.bool true) &&
        boxesOk (4:Nat)
 [some [AV.str nm,AV.int IntKind.i64 nx,AV.sl ((8:Nat)) l1 Own.no],
 some
 [AV.str src,AV.bool ack,AV.int IntKind.i64 pn,AV.str fsrc,AV.int IntKind.i64 seq,AV.int IntKind.i64 kind,AV.int IntKind.i64 ref,AV.str tab,
 AV.str key,AV.int IntKind.i64 ev,AV.sl ((3:Nat)) fs Own.no],
 some [AV.str [],AV.int IntKind.i64 (0:Int),AV.sl ((0:Nat)) [] Own.nil],some [AV.tup [AV.bool true,AV.sl ((8:Nat)) es Own.no]]])
      (AV.bool true)
      {
        boxes:=
 [some [AV.str nm,AV.int IntKind.i64 nx,AV.sl ((8:Nat)) l1 Own.no],
 some
 [AV.str src,AV.bool ack,AV.int IntKind.i64 pn,AV.str fsrc,AV.int IntKind.i64 seq,AV.int IntKind.i64 kind,AV.int IntKind.i64 ref,AV.str tab,
 AV.str key,AV.int IntKind.i64 ev,AV.sl ((3:Nat)) fs Own.no],
 some [AV.str [],AV.int IntKind.i64 (0:Int),AV.sl ((0:Nat)) [] Own.nil],some [AV.tup [AV.bool true,AV.sl ((8:Nat)) es Own.no]]],
        live:=[] }
      (AV.bool (decide (f2 < pn)),
        { boxes:=[some [AV.str nm,AV.int IntKind.i64 nx,AV.sl ((8:Nat)) l1 Own.no],some [AV.str src,AV.bool ack,AV.int IntKind.i64 pn,AV.str fsrc,AV.int IntKind.i64 seq,AV.int IntKind.i64 kind,AV.int IntKind.i64 ref,AV.str tab,AV.str key,AV.int IntKind.i64 ev,AV.sl ((3:Nat)) fs Own.no],some [AV.str [],AV.int IntKind.i64 (0:Int),AV.sl ((0:Nat)) [] Own.nil],some [AV.tup [AV.bool true,AV.sl ((8:Nat)) es Own.no]]],live:=[] })) ∧
  (decide (f2 < pn) = false →
    RetOpen
      (AV.p2 (4:Nat) (AV.bool false) &&
        boxesOk (4:Nat)
 [some [AV.str nm,AV.int IntKind.i64 nx,AV.sl ((8:Nat)) l1 Own.no],
 some
 [AV.str src,AV.bool ack,AV.int IntKind.i64 pn,AV.str fsrc,AV.int IntKind.i64 seq,AV.int IntKind.i64 kind,AV.int IntKind.i64 ref,AV.str tab,
 AV.str key,AV.int IntKind.i64 ev,AV.sl ((3:Nat)) fs Own.no],
 some [AV.str [],AV.int IntKind.i64 (0:Int),AV.sl ((0:Nat)) [] Own.nil],some [AV.tup [AV.bool true,AV.sl ((8:Nat)) es Own.no]]])
      (AV.bool false)
      {
        boxes:=
 [some [AV.str nm,AV.int IntKind.i64 nx,AV.sl ((8:Nat)) l1 Own.no],
 some
 [AV.str src,AV.bool ack,AV.int IntKind.i64 pn,AV.str fsrc,AV.int IntKind.i64 seq,AV.int IntKind.i64 kind,AV.int IntKind.i64 ref,AV.str tab,
 AV.str key,AV.int IntKind.i64 ev,AV.sl ((3:Nat)) fs Own.no],
 some [AV.str [],AV.int IntKind.i64 (0:Int),AV.sl ((0:Nat)) [] Own.nil],some [AV.tup [AV.bool true,AV.sl ((8:Nat)) es Own.no]]],
        live:=[] }
      (AV.bool (decide (f2 < pn)),
        { boxes:=[some [AV.str nm,AV.int IntKind.i64 nx,AV.sl ((8:Nat)) l1 Own.no],some [AV.str src,AV.bool ack,AV.int IntKind.i64 pn,AV.str fsrc,AV.int IntKind.i64 seq,AV.int IntKind.i64 kind,AV.int IntKind.i64 ref,AV.str tab,AV.str key,AV.int IntKind.i64 ev,AV.sl ((3:Nat)) fs Own.no],some [AV.str [],AV.int IntKind.i64 (0:Int),AV.sl ((0:Nat)) [] Own.nil],some [AV.tup [AV.bool true,AV.sl ((8:Nat)) es Own.no]]],live:=[] }))):=by kernel_rfl
theorem w47f (m:Int) (nm src fsrc tab key:List UInt8) (nx pn seq kind ref ev:Int) (ack:Bool) (l1 es fs:List AV) (f1 f5 f6:List UInt8) (f2 f3 f4 f7:Int) (f8:List AV) (g1 g5 g6:List UInt8) (g2 g3 g4 g7:Int) (g8:List AV):(openW PI (GI m) XK (tbl []) (itbl []) nAn [] 47 [.agg [.str f1,.int .i64 f2,.int .i64 f3,.int .i64 f4,.str f5,.str f6,.int .i64 f7,.sl 3 f8 .no],.ptr 1 0] ⟨[some (sdC nm nx 8 l1),some (pkD src ack pn fsrc seq kind ref tab key ev fs),some sdZ,some (ownC 8 es),some [.str g1,.int .i64 g2,.int .i64 g3,.int .i64 g4,.str g5,.str g6,.int .i64 g7,.sl 3 g8 .no]],[]⟩ (.bool (decide (f2 < pn)),⟨[some (sdC nm nx 8 l1),some (pkD src ack pn fsrc seq kind ref tab key ev fs),some sdZ,some (ownC 8 es),some [.str g1,.int .i64 g2,.int .i64 g3,.int .i64 g4,.str g5,.str g6,.int .i64 g7,.sl 3 g8 .no]],[]⟩)) =
((decide (f2 < pn) = true →
    RetOpen
      (AV.p2 (5:Nat) (AV.bool true) &&
        boxesOk (5:Nat)
 [some [AV.str nm,AV.int IntKind.i64 nx,AV.sl ((8:Nat)) l1 Own.no],
 some
 [AV.str src,AV.bool ack,AV.int IntKind.i64 pn,AV.str fsrc,AV.int IntKind.i64 seq,AV.int IntKind.i64 kind,AV.int IntKind.i64 ref,AV.str tab,
 AV.str key,AV.int IntKind.i64 ev,AV.sl ((3:Nat)) fs Own.no],
 some [AV.str [],AV.int IntKind.i64 (0:Int),AV.sl ((0:Nat)) [] Own.nil],some [AV.tup [AV.bool true,AV.sl ((8:Nat)) es Own.no]],
 some
 [AV.str g1,AV.int IntKind.i64 g2,AV.int IntKind.i64 g3,AV.int IntKind.i64 g4,AV.str g5,AV.str g6,AV.int IntKind.i64 g7,
 AV.sl ((3:Nat)) g8 Own.no]])
      (AV.bool true)
      {
        boxes:=
 [some [AV.str nm,AV.int IntKind.i64 nx,AV.sl ((8:Nat)) l1 Own.no],
 some
 [AV.str src,AV.bool ack,AV.int IntKind.i64 pn,AV.str fsrc,AV.int IntKind.i64 seq,AV.int IntKind.i64 kind,AV.int IntKind.i64 ref,AV.str tab,
 AV.str key,AV.int IntKind.i64 ev,AV.sl ((3:Nat)) fs Own.no],
 some [AV.str [],AV.int IntKind.i64 (0:Int),AV.sl ((0:Nat)) [] Own.nil],some [AV.tup [AV.bool true,AV.sl ((8:Nat)) es Own.no]],
 some
 [AV.str g1,AV.int IntKind.i64 g2,AV.int IntKind.i64 g3,AV.int IntKind.i64 g4,AV.str g5,AV.str g6,AV.int IntKind.i64 g7,
 AV.sl ((3 : Nat)) g8 Own.no]],
        live:=[] }
      (AV.bool (decide (f2 < pn)),
        { boxes:=[some [AV.str nm,AV.int IntKind.i64 nx,AV.sl ((8:Nat)) l1 Own.no],some [AV.str src,AV.bool ack,AV.int IntKind.i64 pn,AV.str fsrc,AV.int IntKind.i64 seq,AV.int IntKind.i64 kind,AV.int IntKind.i64 ref,AV.str tab,AV.str key,AV.int IntKind.i64 ev,AV.sl ((3:Nat)) fs Own.no],some [AV.str [],AV.int IntKind.i64 (0:Int),AV.sl ((0:Nat)) [] Own.nil],some [AV.tup [AV.bool true,AV.sl ((8:Nat)) es Own.no]],some [AV.str g1,AV.int IntKind.i64 g2,AV.int IntKind.i64 g3,AV.int IntKind.i64 g4,AV.str g5,AV.str g6,AV.int IntKind.i64 g7,AV.sl ((3:Nat)) g8 Own.no]],live:=[] })) ∧
  (decide (f2 < pn) = false →
    RetOpen
      (AV.p2 (5:Nat) (AV.bool false) &&
        boxesOk (5:Nat)
 [some [AV.str nm,AV.int IntKind.i64 nx,AV.sl ((8:Nat)) l1 Own.no],
 some
 [AV.str src,AV.bool ack,AV.int IntKind.i64 pn,AV.str fsrc,AV.int IntKind.i64 seq,AV.int IntKind.i64 kind,AV.int IntKind.i64 ref,AV.str tab,
 AV.str key,AV.int IntKind.i64 ev,AV.sl ((3:Nat)) fs Own.no],
 some [AV.str [],AV.int IntKind.i64 (0:Int),AV.sl ((0:Nat)) [] Own.nil],some [AV.tup [AV.bool true,AV.sl ((8:Nat)) es Own.no]],
 some
 [AV.str g1,AV.int IntKind.i64 g2,AV.int IntKind.i64 g3,AV.int IntKind.i64 g4,AV.str g5,AV.str g6,AV.int IntKind.i64 g7,
 AV.sl ((3:Nat)) g8 Own.no]])
      (AV.bool false)
      {
        boxes:=
 [some [AV.str nm,AV.int IntKind.i64 nx,AV.sl ((8:Nat)) l1 Own.no],
 some
 [AV.str src,AV.bool ack,AV.int IntKind.i64 pn,AV.str fsrc,AV.int IntKind.i64 seq,AV.int IntKind.i64 kind,AV.int IntKind.i64 ref,AV.str tab,
 AV.str key,AV.int IntKind.i64 ev,AV.sl ((3:Nat)) fs Own.no],
 some [AV.str [],AV.int IntKind.i64 (0:Int),AV.sl ((0:Nat)) [] Own.nil],some [AV.tup [AV.bool true,AV.sl ((8:Nat)) es Own.no]],
 some
 [AV.str g1,AV.int IntKind.i64 g2,AV.int IntKind.i64 g3,AV.int IntKind.i64 g4,AV.str g5,AV.str g6,AV.int IntKind.i64 g7,
 AV.sl ((3 : Nat)) g8 Own.no]],
        live:=[] }
      (AV.bool (decide (f2 < pn)),
        { boxes:=[some [AV.str nm,AV.int IntKind.i64 nx,AV.sl ((8:Nat)) l1 Own.no],some [AV.str src,AV.bool ack,AV.int IntKind.i64 pn,AV.str fsrc,AV.int IntKind.i64 seq,AV.int IntKind.i64 kind,AV.int IntKind.i64 ref,AV.str tab,AV.str key,AV.int IntKind.i64 ev,AV.sl ((3:Nat)) fs Own.no],some [AV.str [],AV.int IntKind.i64 (0:Int),AV.sl ((0:Nat)) [] Own.nil],some [AV.tup [AV.bool true,AV.sl ((8:Nat)) es Own.no]],some [AV.str g1,AV.int IntKind.i64 g2,AV.int IntKind.i64 g3,AV.int IntKind.i64 g4,AV.str g5,AV.str g6,AV.int IntKind.i64 g7,AV.sl ((3:Nat)) g8 Own.no]],live:=[] }))):=by kernel_rfl
theorem w62 (m:Int) (nm src fsrc tab key:List UInt8) (nx pn seq kind ref ev:Int) (ack:Bool) (l1 fs:List AV) (l:List FcI):(openW PI (GI m) XK (tbl []) (itbl [(47,s47)]) (a62 nm nx l1 (pkD src ack pn fsrc seq kind ref tab key ev fs) pn l) [] 62 [.ms 3 8 l.length,.fn 47 [.ptr 1 0]] (S4 nm nx l1 (pkD src ack pn fsrc seq kind ref tab key ev fs) l) (.int .i64 (keptIdx pn (fcsL l)),S4 nm nx l1 (pkD src ack pn fsrc seq kind ref tab key ev fs) l)) =
((∃ (y:Nat),
    ValsAre
        [AV.ms ((3:Nat)) ((8:Nat)) l.length,AV.fn ((47:Nat)) [AV.ptr ((1:Nat)) ((0:Nat))],AV.int IntKind.i64 (↑l.length:Int),
 AV.int IntKind.i64 (0:Int)]
        [AV.ms ((3:Nat)) ((8:Nat)) l.length,AV.fn ((47:Nat)) [AV.ptr ((1:Nat)) ((0:Nat))],AV.int IntKind.i64 (↑l.length:Int),
 AV.int IntKind.i64 (↑y:Int)] ∧
      StIs
 { boxes:=[some [AV.str nm,AV.int IntKind.i64 nx,AV.sl ((8:Nat)) l1 Own.no],some [AV.str src,AV.bool ack,AV.int IntKind.i64 pn,AV.str fsrc,AV.int IntKind.i64 seq,AV.int IntKind.i64 kind,AV.int IntKind.i64 ref,AV.str tab,AV.str key,AV.int IntKind.i64 ev,AV.sl ((3:Nat)) fs Own.no],some [AV.str [],AV.int IntKind.i64 (0:Int),AV.sl ((0:Nat)) [] Own.nil],some [AV.tup [AV.bool true,AV.sl ((8:Nat)) (fcsL l) Own.no]]],live:=[] }
 { boxes:=[some [AV.str nm,AV.int IntKind.i64 nx,AV.sl ((8:Nat)) l1 Own.no],some [AV.str src,AV.bool ack,AV.int IntKind.i64 pn,AV.str fsrc,AV.int IntKind.i64 seq,AV.int IntKind.i64 kind,AV.int IntKind.i64 ref,AV.str tab,AV.str key,AV.int IntKind.i64 ev,AV.sl ((3:Nat)) fs Own.no],some [AV.str [],AV.int IntKind.i64 (0:Int),AV.sl ((0:Nat)) [] Own.nil],some [AV.tup [AV.bool true,AV.sl ((8:Nat)) (fcsL l) Own.no]]],live:=[] } ∧
        (y≤l.length∧(List.take y l).all (keepF pn) = true)∧True) ∧
  ∀ (x:Nat),
    x≤l.length∧(List.take x l).all (keepF pn) = true →
      (decide ((↑x:Int) < (↑l.length:Int)) = true →
 ((0:Int)≤(↑x:Int)∧(↑x:Int) < (↑l.length:Int)) ∧
 ∃ (s:List UInt8),
 ∃ (n:Int),
 ∃ (n_1:Int),
 ∃ (n_2:Int),
 ∃ (s_1:List UInt8),
 ∃ (s_2:List UInt8),
 ∃ (n_3:Int),
 ∃ (es:List AV),
 takeAt PI ((33:Nat)) (fcsL l) (↑x:Int).toNat ((0:Nat)) =
 some
 (AV.agg
 [AV.str s,AV.int IntKind.i64 n,AV.int IntKind.i64 n_1,AV.int IntKind.i64 n_2,AV.str s_1,AV.str s_2,
 AV.int IntKind.i64 n_3,AV.sl ((3:Nat)) es Own.no]) ∧
 True ∧
 (decide (n < pn) = true →
 RetOpen
 (AV.p2 (4:Nat) (AV.int IntKind.i64 (↑x:Int)) &&
 boxesOk (4:Nat)
 [some [AV.str nm,AV.int IntKind.i64 nx,AV.sl ((8:Nat)) l1 Own.no],
 some
 [AV.str src,AV.bool ack,AV.int IntKind.i64 pn,AV.str fsrc,AV.int IntKind.i64 seq,AV.int IntKind.i64 kind,
 AV.int IntKind.i64 ref,AV.str tab,AV.str key,AV.int IntKind.i64 ev,AV.sl ((3:Nat)) fs Own.no],
 some [AV.str [],AV.int IntKind.i64 (0:Int),AV.sl ((0:Nat)) [] Own.nil],
 some [AV.tup [AV.bool true,AV.sl ((8:Nat)) (fcsL l) Own.no]]])
 (AV.int IntKind.i64 (↑x:Int))
 { boxes:=[some [AV.str nm,AV.int IntKind.i64 nx,AV.sl ((8:Nat)) l1 Own.no],some [AV.str src,AV.bool ack,AV.int IntKind.i64 pn,AV.str fsrc,AV.int IntKind.i64 seq,AV.int IntKind.i64 kind,AV.int IntKind.i64 ref,AV.str tab,AV.str key,AV.int IntKind.i64 ev,AV.sl ((3:Nat)) fs Own.no],some [AV.str [],AV.int IntKind.i64 (0:Int),AV.sl ((0:Nat)) [] Own.nil],some [AV.tup [AV.bool true,AV.sl ((8:Nat)) (fcsL l) Own.no]]],live:=[] }
 (AV.int IntKind.i64 (keptIdx pn (fcsL l)),
 { boxes:=[some [AV.str nm,AV.int IntKind.i64 nx,AV.sl ((8:Nat)) l1 Own.no],some [AV.str src,AV.bool ack,AV.int IntKind.i64 pn,AV.str fsrc,AV.int IntKind.i64 seq,AV.int IntKind.i64 kind,AV.int IntKind.i64 ref,AV.str tab,AV.str key,AV.int IntKind.i64 ev,AV.sl ((3:Nat)) fs Own.no],some [AV.str [],AV.int IntKind.i64 (0:Int),AV.sl ((0:Nat)) [] Own.nil],some [AV.tup [AV.bool true,AV.sl ((8:Nat)) (fcsL l) Own.no]]],live:=[] })) ∧
 (decide (n < pn) = false →
 ∃ (y:Nat),
 ValsAre
 [AV.ms ((3:Nat)) ((8:Nat)) l.length,AV.fn ((47:Nat)) [AV.ptr ((1:Nat)) ((0:Nat))],
 AV.int IntKind.i64 (↑l.length:Int),AV.int IntKind.i64 (IntKind.i64.wrap ((↑x:Int) + (1:Int)))]
 [AV.ms ((3:Nat)) ((8:Nat)) l.length,AV.fn ((47:Nat)) [AV.ptr ((1:Nat)) ((0:Nat))],
 AV.int IntKind.i64 (↑l.length:Int),AV.int IntKind.i64 (↑y:Int)] ∧
 StIs
 { boxes:=[some [AV.str nm,AV.int IntKind.i64 nx,AV.sl ((8:Nat)) l1 Own.no],some [AV.str src,AV.bool ack,AV.int IntKind.i64 pn,AV.str fsrc,AV.int IntKind.i64 seq,AV.int IntKind.i64 kind,AV.int IntKind.i64 ref,AV.str tab,AV.str key,AV.int IntKind.i64 ev,AV.sl ((3:Nat)) fs Own.no],some [AV.str [],AV.int IntKind.i64 (0:Int),AV.sl ((0:Nat)) [] Own.nil],some [AV.tup [AV.bool true,AV.sl ((8:Nat)) (fcsL l) Own.no]]],live:=[] }
 { boxes:=[some [AV.str nm,AV.int IntKind.i64 nx,AV.sl ((8:Nat)) l1 Own.no],some [AV.str src,AV.bool ack,AV.int IntKind.i64 pn,AV.str fsrc,AV.int IntKind.i64 seq,AV.int IntKind.i64 kind,AV.int IntKind.i64 ref,AV.str tab,AV.str key,AV.int IntKind.i64 ev,AV.sl ((3:Nat)) fs Own.no],some [AV.str [],AV.int IntKind.i64 (0:Int),AV.sl ((0:Nat)) [] Own.nil],some [AV.tup [AV.bool true,AV.sl ((8:Nat)) (fcsL l) Own.no]]],live:=[] } ∧
 (y≤l.length∧(List.take y l).all (keepF pn) = true)∧l.length - y < l.length - x)) ∧
        (decide ((↑x:Int) < (↑l.length:Int)) = false →
 RetOpen
 (AV.p2 (4:Nat) (AV.int IntKind.i64 (-1:Int)) &&
 boxesOk (4:Nat)
 [some [AV.str nm,AV.int IntKind.i64 nx,AV.sl ((8:Nat)) l1 Own.no],
 some
 [AV.str src,AV.bool ack,AV.int IntKind.i64 pn,AV.str fsrc,AV.int IntKind.i64 seq,AV.int IntKind.i64 kind,AV.int IntKind.i64 ref,
 AV.str tab,AV.str key,AV.int IntKind.i64 ev,AV.sl ((3:Nat)) fs Own.no],
 some [AV.str [],AV.int IntKind.i64 (0:Int),AV.sl ((0:Nat)) [] Own.nil],
 some [AV.tup [AV.bool true,AV.sl ((8:Nat)) (fcsL l) Own.no]]])
 (AV.int IntKind.i64 (-1:Int))
 { boxes:=[some [AV.str nm,AV.int IntKind.i64 nx,AV.sl ((8:Nat)) l1 Own.no],some [AV.str src,AV.bool ack,AV.int IntKind.i64 pn,AV.str fsrc,AV.int IntKind.i64 seq,AV.int IntKind.i64 kind,AV.int IntKind.i64 ref,AV.str tab,AV.str key,AV.int IntKind.i64 ev,AV.sl ((3:Nat)) fs Own.no],some [AV.str [],AV.int IntKind.i64 (0:Int),AV.sl ((0:Nat)) [] Own.nil],some [AV.tup [AV.bool true,AV.sl ((8:Nat)) (fcsL l) Own.no]]],live:=[] }
 (AV.int IntKind.i64 (keptIdx pn (fcsL l)),
 { boxes:=[some [AV.str nm,AV.int IntKind.i64 nx,AV.sl ((8:Nat)) l1 Own.no],some [AV.str src,AV.bool ack,AV.int IntKind.i64 pn,AV.str fsrc,AV.int IntKind.i64 seq,AV.int IntKind.i64 kind,AV.int IntKind.i64 ref,AV.str tab,AV.str key,AV.int IntKind.i64 ev,AV.sl ((3:Nat)) fs Own.no],some [AV.str [],AV.int IntKind.i64 (0:Int),AV.sl ((0:Nat)) [] Own.nil],some [AV.tup [AV.bool true,AV.sl ((8:Nat)) (fcsL l) Own.no]]],live:=[] }))):=by kernel_rfl
theorem w62e (m:Int) (z1:Nat) (nm src fsrc tab key:List UInt8) (nx pn seq kind ref ev:Int) (ack:Bool) (l1 fs:List AV):(openW PI (GI m) XK (tbl []) (itbl [(47,s47)]) (a62e nm nx z1 l1 (pkD src ack pn fsrc seq kind ref tab key ev fs)) [] 62 [.sl 8 [] .full,.fn 47 [.ptr 1 0]] (S3 nm nx z1 l1 (pkD src ack pn fsrc seq kind ref tab key ev fs)) (.int .i64 (-1),S3 nm nx z1 l1 (pkD src ack pn fsrc seq kind ref tab key ev fs))) =
((∃ (_y:Unit),
    ValsAre [AV.sl ((8:Nat)) [] Own.full,AV.fn ((47:Nat)) [AV.ptr ((1:Nat)) ((0:Nat))],AV.int IntKind.i64 (0:Int),AV.int IntKind.i64 (0:Int)]
        [AV.sl ((8:Nat)) [] Own.full,AV.fn ((47:Nat)) [AV.ptr ((1:Nat)) ((0:Nat))],AV.int IntKind.i64 (0:Int),AV.int IntKind.i64 (0:Int)] ∧
      StIs
 { boxes:=[some [AV.str nm,AV.int IntKind.i64 nx,AV.sl z1 l1 Own.no],some [AV.str src,AV.bool ack,AV.int IntKind.i64 pn,AV.str fsrc,AV.int IntKind.i64 seq,AV.int IntKind.i64 kind,AV.int IntKind.i64 ref,AV.str tab,AV.str key,AV.int IntKind.i64 ev,AV.sl ((3:Nat)) fs Own.no],some [AV.str [],AV.int IntKind.i64 (0:Int),AV.sl ((0:Nat)) [] Own.nil]],live:=[] }
 { boxes:=[some [AV.str nm,AV.int IntKind.i64 nx,AV.sl z1 l1 Own.no],some [AV.str src,AV.bool ack,AV.int IntKind.i64 pn,AV.str fsrc,AV.int IntKind.i64 seq,AV.int IntKind.i64 kind,AV.int IntKind.i64 ref,AV.str tab,AV.str key,AV.int IntKind.i64 ev,AV.sl ((3:Nat)) fs Own.no],some [AV.str [],AV.int IntKind.i64 (0:Int),AV.sl ((0:Nat)) [] Own.nil]],live:=[] } ∧
        True∧True) ∧
  ∀ (_x:Unit),
    True →
      (false = true →
 ((0:Int)≤(0:Int)∧(0:Int) < (0:Int)) ∧
 ∃ (s:List UInt8),
 ∃ (n:Int),
 ∃ (n_1:Int),
 ∃ (n_2:Int),
 ∃ (s_1:List UInt8),
 ∃ (s_2:List UInt8),
 ∃ (n_3:Int),
 ∃ (es:List AV),
 none =
 some
 (AV.agg
 [AV.str s,AV.int IntKind.i64 n,AV.int IntKind.i64 n_1,AV.int IntKind.i64 n_2,AV.str s_1,AV.str s_2,
 AV.int IntKind.i64 n_3,AV.sl ((3:Nat)) es Own.no]) ∧
 False) ∧
        (false = false →
 RetOpen
 (AV.p2 (3:Nat) (AV.int IntKind.i64 (-1:Int)) &&
 boxesOk (3:Nat)
 [some [AV.str nm,AV.int IntKind.i64 nx,AV.sl z1 l1 Own.no],
 some
 [AV.str src,AV.bool ack,AV.int IntKind.i64 pn,AV.str fsrc,AV.int IntKind.i64 seq,AV.int IntKind.i64 kind,AV.int IntKind.i64 ref,
 AV.str tab,AV.str key,AV.int IntKind.i64 ev,AV.sl ((3:Nat)) fs Own.no],
 some [AV.str [],AV.int IntKind.i64 (0:Int),AV.sl ((0:Nat)) [] Own.nil]])
 (AV.int IntKind.i64 (-1:Int))
 { boxes:=[some [AV.str nm,AV.int IntKind.i64 nx,AV.sl z1 l1 Own.no],some [AV.str src,AV.bool ack,AV.int IntKind.i64 pn,AV.str fsrc,AV.int IntKind.i64 seq,AV.int IntKind.i64 kind,AV.int IntKind.i64 ref,AV.str tab,AV.str key,AV.int IntKind.i64 ev,AV.sl ((3:Nat)) fs Own.no],some [AV.str [],AV.int IntKind.i64 (0:Int),AV.sl ((0:Nat)) [] Own.nil]],live:=[] }
 (AV.int IntKind.i64 (-1:Int),
 { boxes:=[some [AV.str nm,AV.int IntKind.i64 nx,AV.sl z1 l1 Own.no],some [AV.str src,AV.bool ack,AV.int IntKind.i64 pn,AV.str fsrc,AV.int IntKind.i64 seq,AV.int IntKind.i64 kind,AV.int IntKind.i64 ref,AV.str tab,AV.str key,AV.int IntKind.i64 ev,AV.sl ((3:Nat)) fs Own.no],some [AV.str [],AV.int IntKind.i64 (0:Int),AV.sl ((0:Nat)) [] Own.nil]],live:=[] }))):=by kernel_rfl
theorem w46 (m:Int) (nm src fsrc tab key:List UInt8) (nx pn seq kind ref ev:Int) (ack:Bool) (l1 fs:List AV) (l:List FcI):(openW PI (GI m) XK (tbl []) (itbl [(47,s47),(62,s62)]) (a46 nm nx l1 (pkD src ack pn fsrc seq kind ref tab key ev fs) pn l) [] 46 [.ms 3 8 l.length,.fn 47 [.ptr 1 0]] (S4 nm nx l1 (pkD src ack pn fsrc seq kind ref tab key ev fs) l) (.ms 3 8 (keptOpen pn (fcsL l)).length,⟨[some (sdC nm nx 8 l1),some (pkD src ack pn fsrc seq kind ref tab key ev fs),some sdZ,some (ownC 8 (keptOpen pn (fcsL l)))],[]⟩)) =
(((∃ (l_1 : List FcI), fcsL l = fcsL l_1) ∧ l.length = (fcsL l).length ∧ (fcsL l).length ≤ (2000000 : Nat)) ∧
  ((keptIdx pn (fcsL l) == (-1:Int)) = true →
      RetOpen
        (AV.p2 (4:Nat) (AV.ms ((3:Nat)) ((8:Nat)) l.length) &&
 boxesOk (4:Nat)
 [some [AV.str nm,AV.int IntKind.i64 nx,AV.sl ((8:Nat)) l1 Own.no],
 some
 [AV.str src,AV.bool ack,AV.int IntKind.i64 pn,AV.str fsrc,AV.int IntKind.i64 seq,AV.int IntKind.i64 kind,AV.int IntKind.i64 ref,
 AV.str tab,AV.str key,AV.int IntKind.i64 ev,AV.sl ((3:Nat)) fs Own.no],
 some [AV.str [],AV.int IntKind.i64 (0:Int),AV.sl ((0:Nat)) [] Own.nil],some [AV.tup [AV.bool true,AV.sl ((8:Nat)) (fcsL l) Own.no]]])
        (AV.ms ((3:Nat)) ((8:Nat)) l.length)
        { boxes:=[some [AV.str nm,AV.int IntKind.i64 nx,AV.sl ((8:Nat)) l1 Own.no],some [AV.str src,AV.bool ack,AV.int IntKind.i64 pn,AV.str fsrc,AV.int IntKind.i64 seq,AV.int IntKind.i64 kind,AV.int IntKind.i64 ref,AV.str tab,AV.str key,AV.int IntKind.i64 ev,AV.sl ((3:Nat)) fs Own.no],some [AV.str [],AV.int IntKind.i64 (0:Int),AV.sl ((0:Nat)) [] Own.nil],some [AV.tup [AV.bool true,AV.sl ((8:Nat)) (fcsL l) Own.no]]],live:=[] }
        (AV.ms ((3:Nat)) ((8:Nat)) (keptOpen pn (fcsL l)).length,
 { boxes:=[some [AV.str nm,AV.int IntKind.i64 nx,AV.sl ((8:Nat)) l1 Own.no],some [AV.str src,AV.bool ack,AV.int IntKind.i64 pn,AV.str fsrc,AV.int IntKind.i64 seq,AV.int IntKind.i64 kind,AV.int IntKind.i64 ref,AV.str tab,AV.str key,AV.int IntKind.i64 ev,AV.sl ((3:Nat)) fs Own.no],some [AV.str [],AV.int IntKind.i64 (0:Int),AV.sl ((0:Nat)) [] Own.nil],some [AV.tup [AV.bool true,AV.sl ((8:Nat)) (keptOpen pn (fcsL l)) Own.no]]],live:=[] })) ∧
    ((keptIdx pn (fcsL l) == (-1 : Int)) = false →
      (∃ (y:St46),
 ValsAre
 [AV.ms ((3:Nat)) ((8:Nat)) l.length,AV.fn ((47:Nat)) [AV.ptr ((1:Nat)) ((0:Nat))],AV.int IntKind.i64 (keptIdx pn (fcsL l)),
 AV.int IntKind.i64 (IntKind.i64.wrap (keptIdx pn (fcsL l) + (1:Int)))]
 [AV.ms ((3:Nat)) ((8:Nat)) l.length,AV.fn ((47:Nat)) [AV.ptr ((1:Nat)) ((0:Nat))],AV.int IntKind.i64 (↑y.j:Int),
 AV.int IntKind.i64 (↑y.i:Int)] ∧
 StIs
 { boxes:=[some [AV.str nm,AV.int IntKind.i64 nx,AV.sl ((8:Nat)) l1 Own.no],some [AV.str src,AV.bool ack,AV.int IntKind.i64 pn,AV.str fsrc,AV.int IntKind.i64 seq,AV.int IntKind.i64 kind,AV.int IntKind.i64 ref,AV.str tab,AV.str key,AV.int IntKind.i64 ev,AV.sl ((3:Nat)) fs Own.no],some [AV.str [],AV.int IntKind.i64 (0:Int),AV.sl ((0:Nat)) [] Own.nil],some [AV.tup [AV.bool true,AV.sl ((8:Nat)) (fcsL l) Own.no]]],live:=[] }
 { boxes:=[some [AV.str nm,AV.int IntKind.i64 nx,AV.sl ((8:Nat)) l1 Own.no],some [AV.str src,AV.bool ack,AV.int IntKind.i64 pn,AV.str fsrc,AV.int IntKind.i64 seq,AV.int IntKind.i64 kind,AV.int IntKind.i64 ref,AV.str tab,AV.str key,AV.int IntKind.i64 ev,AV.sl ((3:Nat)) fs Own.no],some [AV.str [],AV.int IntKind.i64 (0:Int),AV.sl ((0:Nat)) [] Own.nil],some [AV.tup [AV.bool true,AV.sl ((8:Nat)) (fcsL y.cur) Own.no]]],live:=[] } ∧
 (y.j < y.i ∧
 y.i≤l.length ∧
 y.cur.length = l.length∧List.take y.j y.cur = List.filter (keepF pn) (List.take y.i l)∧List.drop y.i y.cur = List.drop y.i l) ∧
 True) ∧
        ∀ (x:St46),
 x.j < x.i ∧
 x.i≤l.length ∧
 x.cur.length = l.length∧List.take x.j x.cur = List.filter (keepF pn) (List.take x.i l)∧List.drop x.i x.cur = List.drop x.i l →
 (decide ((↑x.i:Int) < (↑l.length:Int)) = true →
 ((0:Int)≤(↑x.i:Int)∧(↑x.i:Int) < (↑l.length:Int)) ∧
 ∃ (s:List UInt8),
 ∃ (n:Int),
 ∃ (n_1:Int),
 ∃ (n_2:Int),
 ∃ (s_1:List UInt8),
 ∃ (s_2:List UInt8),
 ∃ (n_3:Int),
 ∃ (es:List AV),
 takeAt PI ((33:Nat)) (fcsL x.cur) (↑x.i:Int).toNat ((0:Nat)) =
 some
 (AV.agg
 [AV.str s,AV.int IntKind.i64 n,AV.int IntKind.i64 n_1,AV.int IntKind.i64 n_2,AV.str s_1,AV.str s_2,
 AV.int IntKind.i64 n_3,AV.sl ((3:Nat)) es Own.no]) ∧
 True ∧
 (decide (n < pn) = true →
 ∃ (y:St46),
 ValsAre
 [AV.ms ((3:Nat)) ((8:Nat)) l.length,AV.fn ((47:Nat)) [AV.ptr ((1:Nat)) ((0:Nat))],
 AV.int IntKind.i64 (↑x.j:Int),AV.int IntKind.i64 (IntKind.i64.wrap ((↑x.i:Int) + (1:Int)))]
 [AV.ms ((3:Nat)) ((8:Nat)) l.length,AV.fn ((47:Nat)) [AV.ptr ((1:Nat)) ((0:Nat))],
 AV.int IntKind.i64 (↑y.j:Int),AV.int IntKind.i64 (↑y.i:Int)] ∧
 StIs
 { boxes:=[some [AV.str nm,AV.int IntKind.i64 nx,AV.sl ((8:Nat)) l1 Own.no],some [AV.str src,AV.bool ack,AV.int IntKind.i64 pn,AV.str fsrc,AV.int IntKind.i64 seq,AV.int IntKind.i64 kind,AV.int IntKind.i64 ref,AV.str tab,AV.str key,AV.int IntKind.i64 ev,AV.sl ((3:Nat)) fs Own.no],some [AV.str [],AV.int IntKind.i64 (0:Int),AV.sl ((0:Nat)) [] Own.nil],some [AV.tup [AV.bool true,AV.sl ((8:Nat)) (fcsL x.cur) Own.no]]],live:=[] }
 { boxes:=[some [AV.str nm,AV.int IntKind.i64 nx,AV.sl ((8:Nat)) l1 Own.no],some [AV.str src,AV.bool ack,AV.int IntKind.i64 pn,AV.str fsrc,AV.int IntKind.i64 seq,AV.int IntKind.i64 kind,AV.int IntKind.i64 ref,AV.str tab,AV.str key,AV.int IntKind.i64 ev,AV.sl ((3:Nat)) fs Own.no],some [AV.str [],AV.int IntKind.i64 (0:Int),AV.sl ((0:Nat)) [] Own.nil],some [AV.tup [AV.bool true,AV.sl ((8:Nat)) (fcsL y.cur) Own.no]]],live:=[] } ∧
 (y.j < y.i ∧
 y.i≤l.length ∧
 y.cur.length = l.length ∧
 List.take y.j y.cur = List.filter (keepF pn) (List.take y.i l) ∧
 List.drop y.i y.cur = List.drop y.i l) ∧
 l.length - y.i < l.length - x.i) ∧
 (decide (n < pn) = false →
 ((0:Int)≤(↑x.j:Int)∧(↑x.j:Int) < (↑l.length:Int)) ∧
 (↑x.j:Int).toNat < (fcsL x.cur).length ∧
 ∃ (y:St46),
 ValsAre
 [AV.ms ((3:Nat)) ((8:Nat)) l.length,AV.fn ((47:Nat)) [AV.ptr ((1:Nat)) ((0:Nat))],
 AV.int IntKind.i64 (IntKind.i64.wrap ((↑x.j:Int) + (1:Int))),
 AV.int IntKind.i64 (IntKind.i64.wrap ((↑x.i:Int) + (1:Int)))]
 [AV.ms ((3:Nat)) ((8:Nat)) l.length,AV.fn ((47:Nat)) [AV.ptr ((1:Nat)) ((0:Nat))],
 AV.int IntKind.i64 (↑y.j:Int),AV.int IntKind.i64 (↑y.i:Int)] ∧
 StIs
 { boxes:=[some [AV.str nm,AV.int IntKind.i64 nx,AV.sl ((8:Nat)) l1 Own.no],some [AV.str src,AV.bool ack,AV.int IntKind.i64 pn,AV.str fsrc,AV.int IntKind.i64 seq,AV.int IntKind.i64 kind,AV.int IntKind.i64 ref,AV.str tab,AV.str key,AV.int IntKind.i64 ev,AV.sl ((3:Nat)) fs Own.no],some [AV.str [],AV.int IntKind.i64 (0:Int),AV.sl ((0:Nat)) [] Own.nil],some [AV.tup [AV.bool true,AV.sl ((8:Nat)) ((fcsL x.cur).set (↑x.j:Int).toNat (keptSetC ((fcsL x.cur).getD (↑x.j:Int).toNat AV.junk) ((0:Nat)) [AV.str s,AV.int IntKind.i64 n,AV.int IntKind.i64 n_1,AV.int IntKind.i64 n_2,AV.str s_1,AV.str s_2,AV.int IntKind.i64 n_3,AV.sl ((3:Nat)) es Own.no])) Own.no]]],live:=[] }
 { boxes:=[some [AV.str nm,AV.int IntKind.i64 nx,AV.sl ((8:Nat)) l1 Own.no],some [AV.str src,AV.bool ack,AV.int IntKind.i64 pn,AV.str fsrc,AV.int IntKind.i64 seq,AV.int IntKind.i64 kind,AV.int IntKind.i64 ref,AV.str tab,AV.str key,AV.int IntKind.i64 ev,AV.sl ((3:Nat)) fs Own.no],some [AV.str [],AV.int IntKind.i64 (0:Int),AV.sl ((0:Nat)) [] Own.nil],some [AV.tup [AV.bool true,AV.sl ((8:Nat)) (fcsL y.cur) Own.no]]],live:=[] } ∧
 (y.j < y.i ∧
 y.i≤l.length ∧
 y.cur.length = l.length ∧
 List.take y.j y.cur = List.filter (keepF pn) (List.take y.i l) ∧
 List.drop y.i y.cur = List.drop y.i l) ∧
 l.length - y.i < l.length - x.i)) ∧
 (decide ((↑x.i:Int) < (↑l.length:Int)) = false →
 (0:Int)≤(↑x.j:Int) ∧
 True ∧
 ((↑x.j:Int).toNat≤l.length∧l.length≤l.length) ∧
 True ∧
 (↑x.j:Int).toNat + (l.length - (↑x.j:Int).toNat)≤(fcsL x.cur).length ∧
 (0:Int)≤(↑x.j:Int) ∧
 True ∧
 ((0:Nat)≤(↑x.j:Int).toNat∧(↑x.j:Int).toNat≤l.length) ∧
 RetOpen
 (AV.p2 (4:Nat) (AV.ms ((3:Nat)) ((8:Nat)) (↑x.j:Int).toNat) &&
 boxesOk (4:Nat)
 [some [AV.str nm,AV.int IntKind.i64 nx,AV.sl ((8:Nat)) l1 Own.no],
 some
 [AV.str src,AV.bool ack,AV.int IntKind.i64 pn,AV.str fsrc,AV.int IntKind.i64 seq,AV.int IntKind.i64 kind,
 AV.int IntKind.i64 ref,AV.str tab,AV.str key,AV.int IntKind.i64 ev,AV.sl ((3:Nat)) fs Own.no],
 some [AV.str [],AV.int IntKind.i64 (0:Int),AV.sl ((0:Nat)) [] Own.nil],
 some [AV.tup [AV.bool true,AV.sl ((8:Nat)) (List.take (↑x.j:Int).toNat (fcsL x.cur)) Own.no]]])
 (AV.ms ((3:Nat)) ((8:Nat)) (↑x.j:Int).toNat)
 { boxes:=[some [AV.str nm,AV.int IntKind.i64 nx,AV.sl ((8:Nat)) l1 Own.no],some [AV.str src,AV.bool ack,AV.int IntKind.i64 pn,AV.str fsrc,AV.int IntKind.i64 seq,AV.int IntKind.i64 kind,AV.int IntKind.i64 ref,AV.str tab,AV.str key,AV.int IntKind.i64 ev,AV.sl ((3:Nat)) fs Own.no],some [AV.str [],AV.int IntKind.i64 (0:Int),AV.sl ((0:Nat)) [] Own.nil],some [AV.tup [AV.bool true,AV.sl ((8:Nat)) (List.take (↑x.j:Int).toNat (fcsL x.cur)) Own.no]]],live:=[] }
 (AV.ms ((3:Nat)) ((8:Nat)) (keptOpen pn (fcsL l)).length,
 { boxes:=[some [AV.str nm,AV.int IntKind.i64 nx,AV.sl ((8:Nat)) l1 Own.no],some [AV.str src,AV.bool ack,AV.int IntKind.i64 pn,AV.str fsrc,AV.int IntKind.i64 seq,AV.int IntKind.i64 kind,AV.int IntKind.i64 ref,AV.str tab,AV.str key,AV.int IntKind.i64 ev,AV.sl ((3:Nat)) fs Own.no],some [AV.str [],AV.int IntKind.i64 (0:Int),AV.sl ((0:Nat)) [] Own.nil],some [AV.tup [AV.bool true,AV.sl ((8:Nat)) (keptOpen pn (fcsL l)) Own.no]]],live:=[] })))):=by kernel_rfl
theorem w46e (m:Int) (z1:Nat) (nm src fsrc tab key:List UInt8) (nx pn seq kind ref ev:Int) (ack:Bool) (l1 fs:List AV):(openW PI (GI m) XK (tbl []) (itbl [(47,s47),(62,s62)]) nAn [] 46 [.sl 8 [] .full,.fn 47 [.ptr 1 0]] (S3 nm nx z1 l1 (pkD src ack pn fsrc seq kind ref tab key ev fs)) (.sl 8 [] .full,S3 nm nx z1 l1 (pkD src ack pn fsrc seq kind ref tab key ev fs))) =
(True ∧
  (true = true →
      RetOpen
        (AV.p2 (3:Nat) (AV.sl ((8:Nat)) [] Own.full) &&
 boxesOk (3:Nat)
 [some [AV.str nm,AV.int IntKind.i64 nx,AV.sl z1 l1 Own.no],
 some
 [AV.str src,AV.bool ack,AV.int IntKind.i64 pn,AV.str fsrc,AV.int IntKind.i64 seq,AV.int IntKind.i64 kind,AV.int IntKind.i64 ref,
 AV.str tab,AV.str key,AV.int IntKind.i64 ev,AV.sl ((3:Nat)) fs Own.no],
 some [AV.str [],AV.int IntKind.i64 (0:Int),AV.sl ((0:Nat)) [] Own.nil]])
        (AV.sl ((8:Nat)) [] Own.full)
        { boxes:=[some [AV.str nm,AV.int IntKind.i64 nx,AV.sl z1 l1 Own.no],some [AV.str src,AV.bool ack,AV.int IntKind.i64 pn,AV.str fsrc,AV.int IntKind.i64 seq,AV.int IntKind.i64 kind,AV.int IntKind.i64 ref,AV.str tab,AV.str key,AV.int IntKind.i64 ev,AV.sl ((3:Nat)) fs Own.no],some [AV.str [],AV.int IntKind.i64 (0:Int),AV.sl ((0:Nat)) [] Own.nil]],live:=[] }
        (AV.sl ((8:Nat)) [] Own.full,
 { boxes:=[some [AV.str nm,AV.int IntKind.i64 nx,AV.sl z1 l1 Own.no],some [AV.str src,AV.bool ack,AV.int IntKind.i64 pn,AV.str fsrc,AV.int IntKind.i64 seq,AV.int IntKind.i64 kind,AV.int IntKind.i64 ref,AV.str tab,AV.str key,AV.int IntKind.i64 ev,AV.sl ((3:Nat)) fs Own.no],some [AV.str [],AV.int IntKind.i64 (0:Int),AV.sl ((0:Nat)) [] Own.nil]],live:=[] })) ∧
    (true = false→False)):=by kernel_rfl
theorem w45 (m:Int) (f1 f5 f6:List UInt8) (f2 f3 f4 f7:Int) (f8:List AV):(pureW PI (GI m) XK (tbl []) (itbl []) nAn [] 45 [.agg [.str f1,.int .i64 f2,.int .i64 f3,.int .i64 f4,.str f5,.str f6,.int .i64 f7,.sl 3 f8 .no]] (pkF [.str f1,.int .i64 f2,.int .i64 f3,.int .i64 f4,.str f5,.str f6,.int .i64 f7,.sl 3 f8 .no] f1,[])) =
(RetIs
 (AV.agg
  [AV.str f1,AV.bool false,AV.int IntKind.i64 (0:Int),AV.str f1,AV.int IntKind.i64 f2,AV.int IntKind.i64 f3,AV.int IntKind.i64 f4,AV.str f5,
   AV.str f6,AV.int IntKind.i64 f7,AV.sl ((3:Nat)) f8 Own.no])
 []
 (AV.agg
   [AV.str f1,AV.bool false,AV.int IntKind.i64 (0:Int),AV.str f1,AV.int IntKind.i64 f2,AV.int IntKind.i64 f3,AV.int IntKind.i64 f4,AV.str f5,
    AV.str f6,AV.int IntKind.i64 f7,AV.sl ((3:Nat)) f8 Own.no],
  [])):=by kernel_rfl
theorem w44 (m:Int) (x:AV) (es:List AV):(pureW PI (GI m) XK (tbl []) (itbl []) nAn [] 44 [.sl 8 (x :: es) .no] (.sl 8 (x :: es) (.tok 0),[(es.length + 1,33)])) =
((x :: es).isEmpty = false ∧
  ((8 : Nat) = (8 : Nat) ∨ ([] : List AV) = []) ∧
    ((0 : Nat) + (x :: es).length) * (105 : Nat) ≤ (70368744177664 : Nat) ∧
      (x :: es = []→RetIs (AV.sl ((8:Nat)) [] Own.full) [] (AV.sl ((8:Nat)) (x :: es) (Own.tok ((0:Nat))),[(es.length + (1:Nat),(33:Nat))])) ∧
        (x :: es ≠ [] →
 ((0:Nat) + (x :: es).length,(33:Nat)).fst = (x :: es).length ∧
 RetIs (AV.sl ((8:Nat)) (x :: es) (Own.tok ((0:Nat)))) [((0:Nat) + (x :: es).length,(33:Nat))]
 (AV.sl ((8:Nat)) (x :: es) (Own.tok ((0:Nat))),[(es.length + (1:Nat),(33:Nat))]))):=by kernel_rfl
theorem w22 (m:Int) (nm:List UInt8) (nx:Int) (l:List FcI):(laxW PI (GI m) XK (tbl [(45,s45)]) (itbl []) (a22 nm nx l) [] 22 [.agg (sdC nm nx 8 (fcsL l))] (.sl 11 (pksL (resP l)) .no,[])) =
((∃ (y:Nat),
    ValsAre
        [AV.ptr ((0:Nat)) ((0:Nat)),AV.sl ((11:Nat)) [] (Own.tok (0:Nat)),AV.sl ((8:Nat)) (fcsL l) Own.no,
 AV.int IntKind.i64 (↑(fcsL l).length:Int),AV.int IntKind.i64 (0:Int)]
        [AV.ptr ((0:Nat)) ((0:Nat)),AV.sl ((11:Nat)) (pksL (resP (List.take y l))) (Own.tok ((0:Nat))),AV.sl ((8:Nat)) (fcsL l) Own.no,
 AV.int IntKind.i64 (↑l.length:Int),AV.int IntKind.i64 (↑y:Int)] ∧
      StIs { boxes:=[some [AV.str nm,AV.int IntKind.i64 nx,AV.sl ((8:Nat)) (fcsL l) Own.no]],live:=[((0:Nat),(35:Nat))] }
 { boxes:=[some [AV.str nm,AV.int IntKind.i64 nx,AV.sl ((8:Nat)) (fcsL l) Own.no]],live:=[((resP (List.take y l)).length,(35:Nat))] } ∧
        y≤l.length∧True) ∧
  ∀ (x:Nat),
    x≤l.length →
      (decide ((↑x:Int) < (↑l.length:Int)) = true →
 ((0:Int)≤(↑x:Int)∧(↑x:Int) < (↑(fcsL l).length:Int)) ∧
 ∃ (s:List UInt8),
 ∃ (n:Int),
 ∃ (n_1:Int),
 ∃ (n_2:Int),
 ∃ (s_1:List UInt8),
 ∃ (s_2:List UInt8),
 ∃ (n_3:Int),
 ∃ (es:List AV),
 takeAt PI ((33:Nat)) (fcsL l) (↑x:Int).toNat ((0:Nat)) =
 some
 (AV.agg
 [AV.str s,AV.int IntKind.i64 n,AV.int IntKind.i64 n_1,AV.int IntKind.i64 n_2,AV.str s_1,AV.str s_2,
 AV.int IntKind.i64 n_3,AV.sl ((3:Nat)) es Own.no]) ∧
 ∃ (s_3:List UInt8),
 ∃ (b:Bool),
 ∃ (n_4:Int),
 ∃ (s_4:List UInt8),
 ∃ (n_5:Int),
 ∃ (n_6:Int),
 ∃ (n_7:Int),
 ∃ (s_5:List UInt8),
 ∃ (s_6:List UInt8),
 ∃ (n_8:Int),
 ∃ (es_1:List AV),
 CallIs
 (some
 (AV.agg
 [AV.str s,AV.bool false,AV.int IntKind.i64 (0:Int),AV.str s,AV.int IntKind.i64 n,
 AV.int IntKind.i64 n_1,AV.int IntKind.i64 n_2,AV.str s_1,AV.str s_2,AV.int IntKind.i64 n_3,
 AV.sl ((3:Nat)) es Own.no],
 []))
 (AV.agg
 [AV.str s_3,AV.bool b,AV.int IntKind.i64 n_4,AV.str s_4,AV.int IntKind.i64 n_5,
 AV.int IntKind.i64 n_6,AV.int IntKind.i64 n_7,AV.str s_5,AV.str s_6,AV.int IntKind.i64 n_8,
 AV.sl ((3:Nat)) es_1 Own.no])
 [] ∧
 ((11:Nat) = (11:Nat)∨pksL (resP (List.take x l)) = []) ∧
 ((pksL (resP (List.take x l))).length + (1:Nat)) * (137:Nat)≤(70368744177664:Nat) ∧
 (resP (List.take x l)).length = (pksL (resP (List.take x l))).length ∧
 ∃ (y:Nat),
 ValsAre
 [AV.ptr ((0:Nat)) ((0:Nat)),
 AV.sl ((11:Nat))
 (pksL (resP (List.take x l)) ++
 [AV.agg
 [AV.str s_3,AV.bool b,AV.int IntKind.i64 n_4,AV.str s_4,AV.int IntKind.i64 n_5,
 AV.int IntKind.i64 n_6,AV.int IntKind.i64 n_7,AV.str s_5,AV.str s_6,
 AV.int IntKind.i64 n_8,AV.sl ((3:Nat)) es_1 Own.no]])
 (Own.tok ((0:Nat))),
 AV.sl ((8:Nat)) (fcsL l) Own.no,AV.int IntKind.i64 (↑l.length:Int),
 AV.int IntKind.i64 (IntKind.i64.wrap ((↑x:Int) + (1:Int)))]
 [AV.ptr ((0:Nat)) ((0:Nat)),
 AV.sl ((11:Nat)) (pksL (resP (List.take y l))) (Own.tok ((0:Nat))),
 AV.sl ((8:Nat)) (fcsL l) Own.no,AV.int IntKind.i64 (↑l.length:Int),
 AV.int IntKind.i64 (↑y:Int)] ∧
 StIs
 { boxes:=[some [AV.str nm,AV.int IntKind.i64 nx,AV.sl ((8:Nat)) (fcsL l) Own.no]],live:=[((pksL (resP (List.take x l))).length + (1:Nat),(35:Nat))] }
 { boxes:=[some [AV.str nm,AV.int IntKind.i64 nx,AV.sl ((8:Nat)) (fcsL l) Own.no]],live:=[((resP (List.take y l)).length,(35:Nat))] } ∧
 y≤l.length∧l.length - y < l.length - x) ∧
        (decide ((↑x:Int) < (↑l.length:Int)) = false →
 RetLax (AV.sl ((11:Nat)) (pksL (resP (List.take x l))) (Own.tok ((0:Nat)))) (AV.sl ((11:Nat)) (pksL (resP l)) Own.no,[]))):=by kernel_rfl
theorem w23 (m:Int) (nm src fsrc tab key:List UInt8) (nx pn seq kind ref ev:Int) (ack:Bool) (fs:List AV) (f:FcI) (l:List FcI) (rn:List UInt8) (rx rc:Int) (rl:List FcI):(laxW PI (GI m) XK (tbl []) (itbl [(44,s44n),(46,s46)]) nAn [] 23 [.agg (sdC nm nx 8 (fcA f :: fcsL l)),.agg (pkD src ack pn fsrc seq kind ref tab key ev fs)] (.tup [.agg (sdC rn rx 8 (fcsL rl)),.int .i64 rc],[])) =
((ack = true →
    ((!src == nm) = true →
        RetLax (AV.tup [AV.agg [AV.str [],AV.int IntKind.i64 (0:Int),AV.sl ((0:Nat)) [] Own.nil],AV.int IntKind.i64 (1:Int)])
 (AV.tup [AV.agg [AV.str rn,AV.int IntKind.i64 rx,AV.sl ((8:Nat)) (fcsL rl) Own.no],AV.int IntKind.i64 rc],[])) ∧
      ((!src == nm) = false →
        (decide (pn < (1:Int)) = true →
 RetLax (AV.tup [AV.agg [AV.str [],AV.int IntKind.i64 (0:Int),AV.sl ((0:Nat)) [] Own.nil],AV.int IntKind.i64 (1:Int)])
 (AV.tup [AV.agg [AV.str rn,AV.int IntKind.i64 rx,AV.sl ((8:Nat)) (fcsL rl) Own.no],AV.int IntKind.i64 rc],[])) ∧
 (decide (pn < (1:Int)) = false →
 (decide (pn > nx) = true →
 RetLax (AV.tup [AV.agg [AV.str [],AV.int IntKind.i64 (0:Int),AV.sl ((0:Nat)) [] Own.nil],AV.int IntKind.i64 (1:Int)])
 (AV.tup [AV.agg [AV.str rn,AV.int IntKind.i64 rx,AV.sl ((8:Nat)) (fcsL rl) Own.no],AV.int IntKind.i64 rc],[])) ∧
 (decide (pn > nx) = false →
 (AV.agg
 [AV.str f.src,AV.int IntKind.i64 f.seq,AV.int IntKind.i64 f.kind,AV.int IntKind.i64 f.ref,AV.str f.table,AV.str f.key,
 AV.int IntKind.i64 f.event,AV.sl ((3:Nat)) (vasL f.fs) Own.no] ::
 fcsL l ≠
 [] ∧
 (AV.agg
 [AV.str f.src,AV.int IntKind.i64 f.seq,AV.int IntKind.i64 f.kind,AV.int IntKind.i64 f.ref,AV.str f.table,AV.str f.key,
 AV.int IntKind.i64 f.event,AV.sl ((3:Nat)) (vasL f.fs) Own.no] ::
 fcsL l).length *
 (104:Nat) ≤
 (140737488355328:Nat)) ∧
 ((∃ (l_1:List FcI),
 AV.agg
 [AV.str f.src,AV.int IntKind.i64 f.seq,AV.int IntKind.i64 f.kind,AV.int IntKind.i64 f.ref,AV.str f.table,AV.str f.key,
 AV.int IntKind.i64 f.event,AV.sl ((3:Nat)) (vasL f.fs) Own.no] ::
 fcsL l =
 fcsL l_1) ∧
 (AV.agg
 [AV.str f.src,AV.int IntKind.i64 f.seq,AV.int IntKind.i64 f.kind,AV.int IntKind.i64 f.ref,AV.str f.table,AV.str f.key,
 AV.int IntKind.i64 f.event,AV.sl ((3:Nat)) (vasL f.fs) Own.no] ::
 fcsL l).length =
 (AV.agg
 [AV.str f.src,AV.int IntKind.i64 f.seq,AV.int IntKind.i64 f.kind,AV.int IntKind.i64 f.ref,AV.str f.table,AV.str f.key,
 AV.int IntKind.i64 f.event,AV.sl ((3:Nat)) (vasL f.fs) Own.no] ::
 fcsL l).length ∧
 (AV.agg
 [AV.str f.src,AV.int IntKind.i64 f.seq,AV.int IntKind.i64 f.kind,AV.int IntKind.i64 f.ref,AV.str f.table,AV.str f.key,
 AV.int IntKind.i64 f.event,AV.sl ((3:Nat)) (vasL f.fs) Own.no] ::
 fcsL l).length ≤
 (2000000:Nat)) ∧
 (keptOpen pn
 (AV.agg
 [AV.str f.src,AV.int IntKind.i64 f.seq,AV.int IntKind.i64 f.kind,AV.int IntKind.i64 f.ref,AV.str f.table,AV.str f.key,
 AV.int IntKind.i64 f.event,AV.sl ((3:Nat)) (vasL f.fs) Own.no] ::
 fcsL l)).length =
 (keptOpen pn
 (AV.agg
 [AV.str f.src,AV.int IntKind.i64 f.seq,AV.int IntKind.i64 f.kind,AV.int IntKind.i64 f.ref,AV.str f.table,AV.str f.key,
 AV.int IntKind.i64 f.event,AV.sl ((3:Nat)) (vasL f.fs) Own.no] ::
 fcsL l)).length ∧
 RetLax
 (AV.tup
 [AV.agg
 [AV.str nm,AV.int IntKind.i64 nx,
 AV.sl ((8:Nat))
 (keptOpen pn
 (AV.agg
 [AV.str f.src,AV.int IntKind.i64 f.seq,AV.int IntKind.i64 f.kind,AV.int IntKind.i64 f.ref,AV.str f.table,
 AV.str f.key,AV.int IntKind.i64 f.event,AV.sl ((3:Nat)) (vasL f.fs) Own.no] ::
 fcsL l))
 Own.no],
 AV.int IntKind.i64 (0:Int)])
 (AV.tup [AV.agg [AV.str rn,AV.int IntKind.i64 rx,AV.sl ((8:Nat)) (fcsL rl) Own.no],AV.int IntKind.i64 rc],[]))))) ∧
  (ack = false →
    RetLax (AV.tup [AV.agg [AV.str [],AV.int IntKind.i64 (0:Int),AV.sl ((0:Nat)) [] Own.nil],AV.int IntKind.i64 (1:Int)])
      (AV.tup [AV.agg [AV.str rn,AV.int IntKind.i64 rx,AV.sl ((8:Nat)) (fcsL rl) Own.no],AV.int IntKind.i64 rc],[]))):=by kernel_rfl
theorem w23e (m:Int) (sz:Nat) (nm src fsrc tab key:List UInt8) (nx pn seq kind ref ev:Int) (ack:Bool) (fs:List AV) (rn:List UInt8) (rx rc:Int):(laxW PI (GI m) XK (tbl []) (itbl [(44,s44n),(46,s46)]) nAn [] 23 [.agg (sdC nm nx sz []),.agg (pkD src ack pn fsrc seq kind ref tab key ev fs)] (.tup [.agg (sdC rn rx 8 []),.int .i64 rc],[])) =
((ack = true →
    ((!src == nm) = true →
        RetLax (AV.tup [AV.agg [AV.str [],AV.int IntKind.i64 (0:Int),AV.sl ((0:Nat)) [] Own.nil],AV.int IntKind.i64 (1:Int)])
 (AV.tup [AV.agg [AV.str rn,AV.int IntKind.i64 rx,AV.sl ((8:Nat)) [] Own.no],AV.int IntKind.i64 rc],[])) ∧
      ((!src == nm) = false →
        (decide (pn < (1:Int)) = true →
 RetLax (AV.tup [AV.agg [AV.str [],AV.int IntKind.i64 (0:Int),AV.sl ((0:Nat)) [] Own.nil],AV.int IntKind.i64 (1:Int)])
 (AV.tup [AV.agg [AV.str rn,AV.int IntKind.i64 rx,AV.sl ((8:Nat)) [] Own.no],AV.int IntKind.i64 rc],[])) ∧
 (decide (pn < (1:Int)) = false →
 (decide (pn > nx) = true →
 RetLax (AV.tup [AV.agg [AV.str [],AV.int IntKind.i64 (0:Int),AV.sl ((0:Nat)) [] Own.nil],AV.int IntKind.i64 (1:Int)])
 (AV.tup [AV.agg [AV.str rn,AV.int IntKind.i64 rx,AV.sl ((8:Nat)) [] Own.no],AV.int IntKind.i64 rc],[])) ∧
 (decide (pn > nx) = false →
 True ∧
 True ∧
 RetLax (AV.tup [AV.agg [AV.str nm,AV.int IntKind.i64 nx,AV.sl ((8:Nat)) [] Own.full],AV.int IntKind.i64 (0:Int)])
 (AV.tup [AV.agg [AV.str rn,AV.int IntKind.i64 rx,AV.sl ((8:Nat)) [] Own.no],AV.int IntKind.i64 rc],[]))))) ∧
  (ack = false →
    RetLax (AV.tup [AV.agg [AV.str [],AV.int IntKind.i64 (0:Int),AV.sl ((0:Nat)) [] Own.nil],AV.int IntKind.i64 (1:Int)])
      (AV.tup [AV.agg [AV.str rn,AV.int IntKind.i64 rx,AV.sl ((8:Nat)) [] Own.no],AV.int IntKind.i64 rc],[]))):=by kernel_rfl
theorem w21 (m:Int) (nm:List UInt8) (nx:Int) (g:FcI) (f:FcI) (l:List FcI) (rn:List UInt8) (rx rc:Int) (rl:List FcI) (p:PkI):(laxW PI (GI m) XK (tbl [(44,s44p),(45,s45)]) (itbl []) nAn [] 21 [.agg (sdC nm nx 8 (fcA f :: fcsL l)),.agg (fcC g)] (.tup [.agg (sdC rn rx 8 (fcsL rl)),pkA p,.int .i64 rc],[])) =
((decide (nx > (1099511627776:Int)) = true →
    RetLax
      (AV.tup
        [AV.agg [AV.str [],AV.int IntKind.i64 (0:Int),AV.sl ((0:Nat)) [] Own.nil],
 AV.agg
 [AV.str [],AV.bool false,AV.int IntKind.i64 (0:Int),AV.str [],AV.int IntKind.i64 (0:Int),AV.int IntKind.i64 (0:Int),
 AV.int IntKind.i64 (0:Int),AV.str [],AV.str [],AV.int IntKind.i64 (0:Int),AV.sl ((0:Nat)) [] Own.nil],
 AV.int IntKind.i64 (2:Int)])
      (AV.tup
 [AV.agg [AV.str rn,AV.int IntKind.i64 rx,AV.sl ((8:Nat)) (fcsL rl) Own.no],
 AV.agg
 [AV.str p.src,AV.bool p.ack,AV.int IntKind.i64 p.next,AV.str p.f.src,AV.int IntKind.i64 p.f.seq,AV.int IntKind.i64 p.f.kind,
 AV.int IntKind.i64 p.f.ref,AV.str p.f.table,AV.str p.f.key,AV.int IntKind.i64 p.f.event,AV.sl ((3:Nat)) (vasL p.f.fs) Own.no],
 AV.int IntKind.i64 rc],
        [])) ∧
  (decide (nx > (1099511627776:Int)) = false →
    (decide
 ((↑(AV.agg
 [AV.str f.src,AV.int IntKind.i64 f.seq,AV.int IntKind.i64 f.kind,AV.int IntKind.i64 f.ref,AV.str f.table,AV.str f.key,
 AV.int IntKind.i64 f.event,AV.sl ((3:Nat)) (vasL f.fs) Own.no] ::
 fcsL l).length :
 Int) ≥
 (64:Int)) =
 true →
        RetLax
 (AV.tup
 [AV.agg [AV.str [],AV.int IntKind.i64 (0:Int),AV.sl ((0:Nat)) [] Own.nil],
 AV.agg
 [AV.str [],AV.bool false,AV.int IntKind.i64 (0:Int),AV.str [],AV.int IntKind.i64 (0:Int),AV.int IntKind.i64 (0:Int),
 AV.int IntKind.i64 (0:Int),AV.str [],AV.str [],AV.int IntKind.i64 (0:Int),AV.sl ((0:Nat)) [] Own.nil],
 AV.int IntKind.i64 (410:Int)])
 (AV.tup
 [AV.agg [AV.str rn,AV.int IntKind.i64 rx,AV.sl ((8:Nat)) (fcsL rl) Own.no],
 AV.agg
 [AV.str p.src,AV.bool p.ack,AV.int IntKind.i64 p.next,AV.str p.f.src,AV.int IntKind.i64 p.f.seq,AV.int IntKind.i64 p.f.kind,
 AV.int IntKind.i64 p.f.ref,AV.str p.f.table,AV.str p.f.key,AV.int IntKind.i64 p.f.event,AV.sl ((3:Nat)) (vasL p.f.fs) Own.no],
 AV.int IntKind.i64 rc],
 [])) ∧
      (decide
 ((↑(AV.agg
 [AV.str f.src,AV.int IntKind.i64 f.seq,AV.int IntKind.i64 f.kind,AV.int IntKind.i64 f.ref,AV.str f.table,AV.str f.key,
 AV.int IntKind.i64 f.event,AV.sl ((3:Nat)) (vasL f.fs) Own.no] ::
 fcsL l).length :
 Int) ≥
 (64:Int)) =
 false →
        ∃ (es:List AV),
 CallIs
 (tbl [((44:Nat),s44p),((45:Nat),s45)] ((44:Nat))
 [AV.sl ((8:Nat))
 (AV.agg
 [AV.str f.src,AV.int IntKind.i64 f.seq,AV.int IntKind.i64 f.kind,AV.int IntKind.i64 f.ref,AV.str f.table,AV.str f.key,
 AV.int IntKind.i64 f.event,AV.sl ((3:Nat)) (vasL f.fs) Own.no] ::
 fcsL l)
 Own.no])
 (AV.sl ((8:Nat)) es (Own.tok ((0:Nat)))) [(es.length,(33:Nat))] ∧
 ((8:Nat) = (8:Nat)∨es = []) ∧
 (es.length + (1:Nat)) * (105:Nat)≤(70368744177664:Nat) ∧
 es.length = es.length ∧
 ∃ (s:List UInt8),
 ∃ (b:Bool),
 ∃ (n:Int),
 ∃ (s_1:List UInt8),
 ∃ (n_1:Int),
 ∃ (n_2:Int),
 ∃ (n_3:Int),
 ∃ (s_2:List UInt8),
 ∃ (s_3:List UInt8),
 ∃ (n_4:Int),
 ∃ (es_1:List AV),
 CallIs
 (some
 (AV.agg
 [AV.str nm,AV.bool false,AV.int IntKind.i64 (0:Int),AV.str nm,AV.int IntKind.i64 nx,
 AV.int IntKind.i64 g.kind,AV.int IntKind.i64 g.ref,AV.str g.table,AV.str g.key,
 AV.int IntKind.i64 g.event,AV.sl ((3:Nat)) (vasL g.fs) Own.no],
 []))
 (AV.agg
 [AV.str s,AV.bool b,AV.int IntKind.i64 n,AV.str s_1,AV.int IntKind.i64 n_1,AV.int IntKind.i64 n_2,
 AV.int IntKind.i64 n_3,AV.str s_2,AV.str s_3,AV.int IntKind.i64 n_4,AV.sl ((3:Nat)) es_1 Own.no])
 [] ∧
 RetLax
 (AV.tup
 [AV.agg
 [AV.str nm,AV.int IntKind.i64 (IntKind.i64.wrap (nx + (1:Int))),
 AV.sl ((8:Nat))
 (es ++
 [AV.agg
 [AV.str nm,AV.int IntKind.i64 nx,AV.int IntKind.i64 g.kind,AV.int IntKind.i64 g.ref,
 AV.str g.table,AV.str g.key,AV.int IntKind.i64 g.event,AV.sl ((3:Nat)) (vasL g.fs) Own.no]])
 (Own.tok ((0:Nat)))],
 AV.agg
 [AV.str s,AV.bool b,AV.int IntKind.i64 n,AV.str s_1,AV.int IntKind.i64 n_1,AV.int IntKind.i64 n_2,
 AV.int IntKind.i64 n_3,AV.str s_2,AV.str s_3,AV.int IntKind.i64 n_4,AV.sl ((3:Nat)) es_1 Own.no],
 AV.int IntKind.i64 (0:Int)])
 (AV.tup
 [AV.agg [AV.str rn,AV.int IntKind.i64 rx,AV.sl ((8:Nat)) (fcsL rl) Own.no],
 AV.agg
 [AV.str p.src,AV.bool p.ack,AV.int IntKind.i64 p.next,AV.str p.f.src,AV.int IntKind.i64 p.f.seq,
 AV.int IntKind.i64 p.f.kind,AV.int IntKind.i64 p.f.ref,AV.str p.f.table,AV.str p.f.key,
 AV.int IntKind.i64 p.f.event,AV.sl ((3:Nat)) (vasL p.f.fs) Own.no],
 AV.int IntKind.i64 rc],
 [])))):=by kernel_rfl
theorem w21e (m:Int) (sz:Nat) (nm:List UInt8) (nx:Int) (g:FcI) (rn:List UInt8) (rx rc:Int) (rl:List FcI) (p:PkI):(laxW PI (GI m) XZ (tbl [(44,s44z),(45,s45)]) (itbl []) nAn [] 21 [.agg (sdC nm nx sz []),.agg (fcC g)] (.tup [.agg (sdC rn rx 8 (fcsL rl)),pkA p,.int .i64 rc],[])) =
((decide (nx > (1099511627776:Int)) = true →
    RetLax
      (AV.tup
        [AV.agg [AV.str [],AV.int IntKind.i64 (0:Int),AV.sl ((0:Nat)) [] Own.nil],
 AV.agg
 [AV.str [],AV.bool false,AV.int IntKind.i64 (0:Int),AV.str [],AV.int IntKind.i64 (0:Int),AV.int IntKind.i64 (0:Int),
 AV.int IntKind.i64 (0:Int),AV.str [],AV.str [],AV.int IntKind.i64 (0:Int),AV.sl ((0:Nat)) [] Own.nil],
 AV.int IntKind.i64 (2:Int)])
      (AV.tup
 [AV.agg [AV.str rn,AV.int IntKind.i64 rx,AV.sl ((8:Nat)) (fcsL rl) Own.no],
 AV.agg
 [AV.str p.src,AV.bool p.ack,AV.int IntKind.i64 p.next,AV.str p.f.src,AV.int IntKind.i64 p.f.seq,AV.int IntKind.i64 p.f.kind,
 AV.int IntKind.i64 p.f.ref,AV.str p.f.table,AV.str p.f.key,AV.int IntKind.i64 p.f.event,AV.sl ((3:Nat)) (vasL p.f.fs) Own.no],
 AV.int IntKind.i64 rc],
        [])) ∧
  (decide (nx > (1099511627776:Int)) = false →
    (false = true →
        RetLax
 (AV.tup
 [AV.agg [AV.str [],AV.int IntKind.i64 (0:Int),AV.sl ((0:Nat)) [] Own.nil],
 AV.agg
 [AV.str [],AV.bool false,AV.int IntKind.i64 (0:Int),AV.str [],AV.int IntKind.i64 (0:Int),AV.int IntKind.i64 (0:Int),
 AV.int IntKind.i64 (0:Int),AV.str [],AV.str [],AV.int IntKind.i64 (0:Int),AV.sl ((0:Nat)) [] Own.nil],
 AV.int IntKind.i64 (410:Int)])
 (AV.tup
 [AV.agg [AV.str rn,AV.int IntKind.i64 rx,AV.sl ((8:Nat)) (fcsL rl) Own.no],
 AV.agg
 [AV.str p.src,AV.bool p.ack,AV.int IntKind.i64 p.next,AV.str p.f.src,AV.int IntKind.i64 p.f.seq,AV.int IntKind.i64 p.f.kind,
 AV.int IntKind.i64 p.f.ref,AV.str p.f.table,AV.str p.f.key,AV.int IntKind.i64 p.f.event,AV.sl ((3:Nat)) (vasL p.f.fs) Own.no],
 AV.int IntKind.i64 rc],
 [])) ∧
      (false = false →
        ∃ (es:List AV),
 CallIs (some (AV.sl ((8:Nat)) [] Own.full,[])) (AV.sl ((8:Nat)) es Own.full) [] ∧
 ((8:Nat) = (8:Nat)∨es = []) ∧
 (es.length + (1:Nat)) * (105:Nat)≤(70368744177664:Nat) ∧
 ∃ (s:List UInt8),
 ∃ (b:Bool),
 ∃ (n:Int),
 ∃ (s_1:List UInt8),
 ∃ (n_1:Int),
 ∃ (n_2:Int),
 ∃ (n_3:Int),
 ∃ (s_2:List UInt8),
 ∃ (s_3:List UInt8),
 ∃ (n_4:Int),
 ∃ (es_1:List AV),
 CallIs
 (some
 (AV.agg
 [AV.str nm,AV.bool false,AV.int IntKind.i64 (0:Int),AV.str nm,AV.int IntKind.i64 nx,
 AV.int IntKind.i64 g.kind,AV.int IntKind.i64 g.ref,AV.str g.table,AV.str g.key,AV.int IntKind.i64 g.event,
 AV.sl ((3:Nat)) (vasL g.fs) Own.no],
 []))
 (AV.agg
 [AV.str s,AV.bool b,AV.int IntKind.i64 n,AV.str s_1,AV.int IntKind.i64 n_1,AV.int IntKind.i64 n_2,
 AV.int IntKind.i64 n_3,AV.str s_2,AV.str s_3,AV.int IntKind.i64 n_4,AV.sl ((3:Nat)) es_1 Own.no])
 [] ∧
 RetLax
 (AV.tup
 [AV.agg
 [AV.str nm,AV.int IntKind.i64 (IntKind.i64.wrap (nx + (1:Int))),
 AV.sl ((8:Nat))
 (es ++
 [AV.agg
 [AV.str nm,AV.int IntKind.i64 nx,AV.int IntKind.i64 g.kind,AV.int IntKind.i64 g.ref,
 AV.str g.table,AV.str g.key,AV.int IntKind.i64 g.event,AV.sl ((3:Nat)) (vasL g.fs) Own.no]])
 (Own.tok ((0:Nat)))],
 AV.agg
 [AV.str s,AV.bool b,AV.int IntKind.i64 n,AV.str s_1,AV.int IntKind.i64 n_1,AV.int IntKind.i64 n_2,
 AV.int IntKind.i64 n_3,AV.str s_2,AV.str s_3,AV.int IntKind.i64 n_4,AV.sl ((3:Nat)) es_1 Own.no],
 AV.int IntKind.i64 (0:Int)])
 (AV.tup
 [AV.agg [AV.str rn,AV.int IntKind.i64 rx,AV.sl ((8:Nat)) (fcsL rl) Own.no],
 AV.agg
 [AV.str p.src,AV.bool p.ack,AV.int IntKind.i64 p.next,AV.str p.f.src,AV.int IntKind.i64 p.f.seq,
 AV.int IntKind.i64 p.f.kind,AV.int IntKind.i64 p.f.ref,AV.str p.f.table,AV.str p.f.key,
 AV.int IntKind.i64 p.f.event,AV.sl ((3:Nat)) (vasL p.f.fs) Own.no],
 AV.int IntKind.i64 rc],
 [])))):=by kernel_rfl
end Go.Abs
