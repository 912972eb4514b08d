/- Own texts, part 9. -/
import Derived.Test.YtpglogahncpnoaaGreatPart8

namespace Go.Abs
open Go.Proofs
theorem wz3 (m:Int) (name:List UInt8) (s:SdI) (f:FcI) (p:PkI):(pureW PI (GI m) XSe (tbl tz3) (itbl []) (az3 name s f p) [] 3 [.str name,.agg (sdCl s),.agg (fcC f),.agg (pkCl p)] (.bool true,[])) =
(∃ (b:Bool),
  CallIs (some (AV.bool true,[])) (AV.bool b) [] ∧
    (b = true →
        (decide ((↑name.length:Int) > (200:Int)) = true→RetIs (AV.bool true) [] (AV.bool true,[])) ∧
 (decide ((↑name.length:Int) > (200:Int)) = false →
 ∃ (b:Bool),
 CallIs
 (tbl
 [((7:Nat),s7),((8:Nat),s9),((9:Nat),z10),((10:Nat),z10),((11:Nat),z11),((12:Nat),z12),((13:Nat),s21),
 ((14:Nat),z14),((15:Nat),z15),((16:Nat),s22),((17:Nat),z17),((18:Nat),s23),((19:Nat),z19)]
 ((8:Nat))
 [AV.agg
 [AV.str f.src,AV.int IntKind.i64 f.seq,AV.int IntKind.i64 f.kind,AV.int IntKind.i64 f.ref,AV.str f.table,AV.str f.key,
 AV.int IntKind.i64 f.event,AV.sl ((3:Nat)) (vasL f.fs) Own.no]])
 (AV.bool b) [] ∧
 (b = true →
 ∃ (b:Bool),
 CallIs
 (tbl
 [((7:Nat),s7),((8:Nat),s9),((9:Nat),z10),((10:Nat),z10),((11:Nat),z11),((12:Nat),z12),((13:Nat),s21),
 ((14:Nat),z14),((15:Nat),z15),((16:Nat),s22),((17:Nat),z17),((18:Nat),s23),((19:Nat),z19)]
 ((8:Nat))
 [AV.agg
 [AV.str p.f.src,AV.int IntKind.i64 p.f.seq,AV.int IntKind.i64 p.f.kind,AV.int IntKind.i64 p.f.ref,AV.str p.f.table,
 AV.str p.f.key,AV.int IntKind.i64 p.f.event,AV.sl ((3:Nat)) (vasL p.f.fs) Own.no]])
 (AV.bool b) [] ∧
 (b = true →
 (decide ((↑p.src.length:Int) > (200:Int)) = true→RetIs (AV.bool true) [] (AV.bool true,[])) ∧
 (decide ((↑p.src.length:Int) > (200:Int)) = false →
 ∃ (s_1:List UInt8),
 ∃ (n:Int),
 ∃ (es:List AV),
 ∃ (n_1:Int),
 CallIs
 (tbl
 [((7:Nat),s7),((8:Nat),s9),((9:Nat),z10),((10:Nat),z10),((11:Nat),z11),((12:Nat),z12),
 ((13:Nat),s21),((14:Nat),z14),((15:Nat),z15),((16:Nat),s22),((17:Nat),z17),
 ((18:Nat),s23),((19:Nat),z19)]
 ((9:Nat)) [AV.str name])
 (AV.tup [AV.agg [AV.str s_1,AV.int IntKind.i64 n,AV.sl ((8:Nat)) es Own.no],AV.int IntKind.i64 n_1]) [] ∧
 ∃ (s_2:List UInt8),
 ∃ (n_2:Int),
 ∃ (es_1:List AV),
 ∃ (n_3:Int),
 CallIs
 (tbl
 [((7:Nat),s7),((8:Nat),s9),((9:Nat),z10),((10:Nat),z10),((11:Nat),z11),
 ((12:Nat),z12),((13:Nat),s21),((14:Nat),z14),((15:Nat),z15),((16:Nat),s22),
 ((17:Nat),z17),((18:Nat),s23),((19:Nat),z19)]
 ((10:Nat)) [AV.str name])
 (AV.tup
 [AV.agg [AV.str s_2,AV.int IntKind.i64 n_2,AV.sl ((8:Nat)) es_1 Own.no],AV.int IntKind.i64 n_3])
 [] ∧
 ((n_1 != n_3) = true→RetIs (AV.bool false) [] (AV.bool true,[])) ∧
 ((n_1 != n_3) = false →
 ∃ (b:Bool),
 CallIs
 (tbl
 [((7:Nat),s7),((8:Nat),s9),((9:Nat),z10),((10:Nat),z10),((11:Nat),z11),
 ((12:Nat),z12),((13:Nat),s21),((14:Nat),z14),((15:Nat),z15),((16:Nat),s22),
 ((17:Nat),z17),((18:Nat),s23),((19:Nat),z19)]
 ((11:Nat))
 [AV.agg [AV.str s_1,AV.int IntKind.i64 n,AV.sl ((8:Nat)) es Own.no],
 AV.agg [AV.str s_2,AV.int IntKind.i64 n_2,AV.sl ((8:Nat)) es_1 Own.no]])
 (AV.bool b) [] ∧
 (b = true →
 ∃ (b:Bool),
 CallIs
 (tbl
 [((7:Nat),s7),((8:Nat),s9),((9:Nat),z10),((10:Nat),z10),
 ((11:Nat),z11),((12:Nat),z12),((13:Nat),s21),((14:Nat),z14),
 ((15:Nat),z15),((16:Nat),s22),((17:Nat),z17),((18:Nat),s23),
 ((19:Nat),z19)]
 ((12:Nat))
 [AV.agg [AV.str s.nm,AV.int IntKind.i64 s.nx,AV.sl ((8:Nat)) (fcsL s.l) Own.no]])
 (AV.bool b) [] ∧
 (b = true →
 ∃ (s_3:List UInt8),
 ∃ (n_4:Int),
 ∃ (es_2:List AV),
 ∃ (s_4:List UInt8),
 ∃ (b:Bool),
 ∃ (n_5:Int),
 ∃ (s_5:List UInt8),
 ∃ (n_6:Int),
 ∃ (n_7:Int),
 ∃ (n_8:Int),
 ∃ (s_6:List UInt8),
 ∃ (s_7:List UInt8),
 ∃ (n_9:Int),
 ∃ (es_3:List AV),
 ∃ (n_10:Int),
 CallIs
 (tbl
 [((7:Nat),s7),((8:Nat),s9),((9:Nat),z10),
 ((10:Nat),z10),((11:Nat),z11),
 ((12:Nat),z12),((13:Nat),s21),
 ((14:Nat),z14),((15:Nat),z15),
 ((16:Nat),s22),((17:Nat),z17),
 ((18:Nat),s23),((19:Nat),z19)]
 ((13:Nat))
 [AV.agg
 [AV.str s.nm,AV.int IntKind.i64 s.nx,
 AV.sl ((8:Nat)) (fcsL s.l) Own.no],
 AV.agg
 [AV.str f.src,AV.int IntKind.i64 f.seq,
 AV.int IntKind.i64 f.kind,
 AV.int IntKind.i64 f.ref,AV.str f.table,
 AV.str f.key,AV.int IntKind.i64 f.event,
 AV.sl ((3:Nat)) (vasL f.fs) Own.no]])
 (AV.tup
 [AV.agg
 [AV.str s_3,AV.int IntKind.i64 n_4,
 AV.sl ((8:Nat)) es_2 Own.no],
 AV.agg
 [AV.str s_4,AV.bool b,AV.int IntKind.i64 n_5,
 AV.str s_5,AV.int IntKind.i64 n_6,
 AV.int IntKind.i64 n_7,
 AV.int IntKind.i64 n_8,AV.str s_6,
 AV.str s_7,AV.int IntKind.i64 n_9,
 AV.sl ((3:Nat)) es_3 Own.no],
 AV.int IntKind.i64 n_10])
 [] ∧
 ∃ (s_8:List UInt8),
 ∃ (n_11:Int),
 ∃ (es_4:List AV),
 ∃ (s_9:List UInt8),
 ∃ (b_1:Bool),
 ∃ (n_12:Int),
 ∃ (s_10:List UInt8),
 ∃ (n_13:Int),
 ∃ (n_14:Int),
 ∃ (n_15:Int),
 ∃ (s_11:List UInt8),
 ∃ (s_12:List UInt8),
 ∃ (n_16:Int),
 ∃ (es_5:List AV),
 ∃ (n_17:Int),
 CallIs
 (tbl
 [((7:Nat),s7),
 ((8:Nat),s9),
 ((9:Nat),z10),
 ((10:Nat),z10),
 ((11:Nat),z11),
 ((12:Nat),z12),
 ((13:Nat),s21),
 ((14:Nat),z14),
 ((15:Nat),z15),
 ((16:Nat),s22),
 ((17:Nat),z17),
 ((18:Nat),s23),
 ((19:Nat),z19)]
 ((14:Nat))
 [AV.agg
 [AV.str s.nm,
 AV.int
 IntKind.i64
 s.nx,
 AV.sl
 ((8:Nat))
 (fcsL s.l)
 Own.no],
 AV.agg
 [AV.str f.src,
 AV.int
 IntKind.i64
 f.seq,
 AV.int
 IntKind.i64
 f.kind,
 AV.int
 IntKind.i64
 f.ref,
 AV.str
 f.table,
 AV.str f.key,
 AV.int
 IntKind.i64
 f.event,
 AV.sl
 ((3:Nat))
 (vasL f.fs)
 Own.no]])
 (AV.tup
 [AV.agg
 [AV.str s_8,
 AV.int
 IntKind.i64
 n_11,
 AV.sl
 ((8:Nat))
 es_4
 Own.no],
 AV.agg
 [AV.str s_9,
 AV.bool b_1,
 AV.int
 IntKind.i64
 n_12,
 AV.str s_10,
 AV.int
 IntKind.i64
 n_13,
 AV.int
 IntKind.i64
 n_14,
 AV.int
 IntKind.i64
 n_15,
 AV.str s_11,
 AV.str s_12,
 AV.int
 IntKind.i64
 n_16,
 AV.sl
 ((3:Nat))
 es_5
 Own.no],
 AV.int IntKind.i64
 n_17])
 [] ∧
 ((n_10 != n_17) = true →
 RetIs
 (AV.bool false) []
 (AV.bool true,
 [])) ∧
 ((n_10 != n_17) =
 false →
 ∃ (b_2:Bool),
 CallIs
 (tbl
 [((7:Nat),
 s7),
 (nat_lit
 8,
 s9),
 (nat_lit
 9,
 z10),
 (nat_lit
 10,
 z10),
 (nat_lit
 11,
 z11),
 (nat_lit
 12,
 z12),
 (nat_lit
 13,
 s21),
 (nat_lit
 14,
 z14),
 (nat_lit
 15,
 z15),
 (nat_lit
 16,
 s22),
 (nat_lit
 17,
 z17),
 (nat_lit
 18,
 s23),
 (nat_lit
 19,
 z19)]
 ((11:Nat))
 [AV.agg
 [AV.str
 s_3,
 AV.int
 IntKind.i64
 n_4,
 AV.sl
 (nat_lit
 8)
 es_2
 Own.no],
 AV.agg
 [AV.str
 s_8,
 AV.int
 IntKind.i64
 n_11,
 AV.sl
 (nat_lit
 8)
 es_4
 Own.no]])
 (AV.bool b_2)
 [] ∧
 (b_2 = true →
 ∃ (b_3 :
 Bool),
 CallIs
 (tbl
 [(nat_lit
 7,
 s7),
 (nat_lit
 8,
 s9),
 (nat_lit
 9,
 z10),
 (nat_lit
 10,
 z10),
 (nat_lit
 11,
 z11),
 (nat_lit
 12,
 z12),
 (nat_lit
 13,
 s21),
 (nat_lit
 14,
 z14),
 (nat_lit
 15,
 z15),
 (nat_lit
 16,
 s22),
 (nat_lit
 17,
 z17),
 (nat_lit
 18,
 s23),
 (nat_lit
 19,
 z19)]
 (nat_lit
 15)
 [AV.agg
 [AV.str
 s_4,
 AV.bool
 b,
 AV.int
 IntKind.i64
 n_5,
 AV.str
 s_5,
 AV.int
 IntKind.i64
 n_6,
 AV.int
 IntKind.i64
 n_7,
 AV.int
 IntKind.i64
 n_8,
 AV.str
 s_6,
 AV.str
 s_7,
 AV.int
 IntKind.i64
 n_9,
 AV.sl
 (nat_lit
 3)
 es_3
 Own.no],
 AV.agg
 [AV.str
 s_9,
 AV.bool
 b_1,
 AV.int
 IntKind.i64
 n_12,
 AV.str
 s_10,
 AV.int
 IntKind.i64
 n_13,
 AV.int
 IntKind.i64
 n_14,
 AV.int
 IntKind.i64
 n_15,
 AV.str
 s_11,
 AV.str
 s_12,
 AV.int
 IntKind.i64
 n_16,
 AV.sl
 (nat_lit
 3)
 es_5
 Own.no]])
 (AV.bool
 b_3)
 [] ∧
 (b_3 =
 true →
 ∃
 (es_6
 :
 List
 AV),
 CallIs
 (tbl
 [(nat_lit
 7,
 s7),
 (nat_lit
 8,
 s9),
 (nat_lit
 9,
 z10),
 (nat_lit
 10,
 z10),
 (nat_lit
 11,
 z11),
 (nat_lit
 12,
 z12),
 (nat_lit
 13,
 s21),
 (nat_lit
 14,
 z14),
 (nat_lit
 15,
 z15),
 (nat_lit
 16,
 s22),
 (nat_lit
 17,
 z17),
 (nat_lit
 18,
 s23),
 (nat_lit
 19,
 z19)]
 (nat_lit
 16)
 [AV.agg
 [AV.str
 s.nm,
 AV.int
 IntKind.i64
 s.nx,
 AV.sl
 (nat_lit
 8)
 (fcsL
 s.l)
 Own.no]])
 (AV.sl
 (nat_lit
 11)
 es_6
 Own.no)
 [] ∧
 ∃
 (es_7
 :
 List
 AV),
 CallIs
 (tbl
 [(nat_lit
 7,
 s7),
 (nat_lit
 8,
 s9),
 (nat_lit
 9,
 z10),
 (nat_lit
 10,
 z10),
 (nat_lit
 11,
 z11),
 (nat_lit
 12,
 z12),
 (nat_lit
 13,
 s21),
 (nat_lit
 14,
 z14),
 (nat_lit
 15,
 z15),
 (nat_lit
 16,
 s22),
 (nat_lit
 17,
 z17),
 (nat_lit
 18,
 s23),
 (nat_lit
 19,
 z19)]
 (nat_lit
 17)
 [AV.agg
 [AV.str
 s.nm,
 AV.int
 IntKind.i64
 s.nx,
 AV.sl
 (nat_lit
 8)
 (fcsL
 s.l)
 Own.no]])
 (AV.sl
 (nat_lit
 11)
 es_7
 Own.no)
 [] ∧
 (((↑es_6.length :
 Int) !=
 (↑es_7.length :
 Int)) =
 true →
 RetIs
 (AV.bool
 false)
 []
 (AV.bool
 true,
 [])) ∧
 (((↑es_6.length :
 Int) !=
 (↑es_7.length :
 Int)) =
 false →
 (∃
 (y
 :
 Nat),
 ValsAre
 [AV.ptr
 (nat_lit
 0)
 (nat_lit
 0),
 AV.ptr
 (nat_lit
 2)
 (nat_lit
 0),
 AV.sl
 (nat_lit
 11)
 es_6
 Own.no,
 AV.sl
 (nat_lit
 11)
 es_7
 Own.no,
 AV.int
 IntKind.i64
 (0 :
 Int)]
 [AV.ptr
 (nat_lit
 0)
 (nat_lit
 0),
 AV.ptr
 (nat_lit
 2)
 (nat_lit
 0),
 AV.sl
 (nat_lit
 11)
 (pksL
 (resP
 s.l))
 Own.no,
 AV.sl
 (nat_lit
 11)
 (pksL
 (resR
 s.nm
 s.l))
 Own.no,
 AV.int
 IntKind.i64
 (↑y :
 Int)] ∧
 StIs
 { boxes:=[some [AV.str s.nm,AV.int IntKind.i64 s.nx,AV.sl (nat_lit 8) (fcsL s.l) Own.no],some [AV.str f.src,AV.int IntKind.i64 f.seq,AV.int IntKind.i64 f.kind,AV.int IntKind.i64 f.ref,AV.str f.table,AV.str f.key,AV.int IntKind.i64 f.event,AV.sl (nat_lit 3) (vasL f.fs) Own.no],some [AV.str p.src,AV.bool p.ack,AV.int IntKind.i64 p.next,AV.str p.f.src,AV.int IntKind.i64 p.f.seq,AV.int IntKind.i64 p.f.kind,AV.int IntKind.i64 p.f.ref,AV.str p.f.table,AV.str p.f.key,AV.int IntKind.i64 p.f.event,AV.sl (nat_lit 3) (vasL p.f.fs) Own.no],some [AV.str s_1,AV.int IntKind.i64 n,AV.sl (nat_lit 8) es Own.no],some [AV.str s_2,AV.int IntKind.i64 n_2,AV.sl (nat_lit 8) es_1 Own.no],some [AV.str s_3,AV.int IntKind.i64 n_4,AV.sl (nat_lit 8) es_2 Own.no],some [AV.str s_4,AV.bool b,AV.int IntKind.i64 n_5,AV.str s_5,AV.int IntKind.i64 n_6,AV.int IntKind.i64 n_7,AV.int IntKind.i64 n_8,AV.str s_6,AV.str s_7,AV.int IntKind.i64 n_9,AV.sl (nat_lit 3) es_3 Own.no],some [AV.str s_8,AV.int IntKind.i64 n_11,AV.sl (nat_lit 8) es_4 Own.no],some [AV.str s_9,AV.bool b_1,AV.int IntKind.i64 n_12,AV.str s_10,AV.int IntKind.i64 n_13,AV.int IntKind.i64 n_14,AV.int IntKind.i64 n_15,AV.str s_11,AV.str s_12,AV.int IntKind.i64 n_16,AV.sl (nat_lit 3) es_5 Own.no]],live:=[] }
 { boxes:=[some [AV.str s.nm,AV.int IntKind.i64 s.nx,AV.sl (nat_lit 8) (fcsL s.l) Own.no],some [AV.str f.src,AV.int IntKind.i64 f.seq,AV.int IntKind.i64 f.kind,AV.int IntKind.i64 f.ref,AV.str f.table,AV.str f.key,AV.int IntKind.i64 f.event,AV.sl (nat_lit 3) (vasL f.fs) Own.no],some [AV.str p.src,AV.bool p.ack,AV.int IntKind.i64 p.next,AV.str p.f.src,AV.int IntKind.i64 p.f.seq,AV.int IntKind.i64 p.f.kind,AV.int IntKind.i64 p.f.ref,AV.str p.f.table,AV.str p.f.key,AV.int IntKind.i64 p.f.event,AV.sl (nat_lit 3) (vasL p.f.fs) Own.no],some [AV.str (srcP name).fst.nm,AV.int IntKind.i64 (srcP name).fst.nx,AV.sl (nat_lit 8) (fcsL (srcP name).fst.l) Own.no],some [AV.str (srcP name).fst.nm,AV.int IntKind.i64 (srcP name).fst.nx,AV.sl (nat_lit 8) (fcsL (srcP name).fst.l) Own.no],some [AV.str (subP s f).fst.nm,AV.int IntKind.i64 (subP s f).fst.nx,AV.sl (nat_lit 8) (fcsL (subP s f).fst.l) Own.no],some [AV.str (subP s f).snd.fst.src,AV.bool (subP s f).snd.fst.ack,AV.int IntKind.i64 (subP s f).snd.fst.next,AV.str (subP s f).snd.fst.f.src,AV.int IntKind.i64 (subP s f).snd.fst.f.seq,AV.int IntKind.i64 (subP s f).snd.fst.f.kind,AV.int IntKind.i64 (subP s f).snd.fst.f.ref,AV.str (subP s f).snd.fst.f.table,AV.str (subP s f).snd.fst.f.key,AV.int IntKind.i64 (subP s f).snd.fst.f.event,AV.sl (nat_lit 3) (vasL (subP s f).snd.fst.f.fs) Own.no],some [AV.str (subP s f).fst.nm,AV.int IntKind.i64 (subP s f).fst.nx,AV.sl (nat_lit 8) (fcsL (subP s f).fst.l) Own.no],some [AV.str (subP s f).snd.fst.src,AV.bool (subP s f).snd.fst.ack,AV.int IntKind.i64 (subP s f).snd.fst.next,AV.str (subP s f).snd.fst.f.src,AV.int IntKind.i64 (subP s f).snd.fst.f.seq,AV.int IntKind.i64 (subP s f).snd.fst.f.kind,AV.int IntKind.i64 (subP s f).snd.fst.f.ref,AV.str (subP s f).snd.fst.f.table,AV.str (subP s f).snd.fst.f.key,AV.int IntKind.i64 (subP s f).snd.fst.f.event,AV.sl (nat_lit 3) (vasL (subP s f).snd.fst.f.fs) Own.no]],live:=[] } ∧
 y ≤
 s.l.length ∧
 True) ∧
 ∀
 (x :
 Nat),
 x ≤
 s.l.length →
 (decide
 ((↑x :
 Int) <
 (↑(pksL
 (resP
 s.l)).length :
 Int)) =
 true →
 ((0 :
 Int) ≤
 (↑x :
 Int) ∧
 (↑x :
 Int) <
 (↑(pksL
 (resP
 s.l)).length :
 Int)) ∧
 ∃
 (s_13
 :
 List
 UInt8),
 ∃
 (b
 :
 Bool),
 ∃
 (n
 :
 Int),
 ∃
 (s_14
 :
 List
 UInt8),
 ∃
 (n_18
 :
 Int),
 ∃
 (n_19
 :
 Int),
 ∃
 (n_20
 :
 Int),
 ∃
 (s_15
 :
 List
 UInt8),
 ∃
 (s_16
 :
 List
 UInt8),
 ∃
 (n_21
 :
 Int),
 ∃
 (es
 :
 List
 AV),
 takeAt
 PI
 (nat_lit
 31)
 (pksL
 (resP
 s.l))
 (↑x :
 Int).toNat
 (nat_lit
 0) =
 some
 (AV.agg
 [AV.str
 s_13,
 AV.bool
 b,
 AV.int
 IntKind.i64
 n,
 AV.str
 s_14,
 AV.int
 IntKind.i64
 n_18,
 AV.int
 IntKind.i64
 n_19,
 AV.int
 IntKind.i64
 n_20,
 AV.str
 s_15,
 AV.str
 s_16,
 AV.int
 IntKind.i64
 n_21,
 AV.sl
 (nat_lit
 3)
 es
 Own.no]) ∧
 ((0 :
 Int) ≤
 (↑x :
 Int) ∧
 (↑x :
 Int) <
 (↑(pksL
 (resR
 s.nm
 s.l)).length :
 Int)) ∧
 ∃
 (s_17
 :
 List
 UInt8),
 ∃
 (b_4
 :
 Bool),
 ∃
 (n_22
 :
 Int),
 ∃
 (s_18
 :
 List
 UInt8),
 ∃
 (n_23
 :
 Int),
 ∃
 (n_24
 :
 Int),
 ∃
 (n_25
 :
 Int),
 ∃
 (s_19
 :
 List
 UInt8),
 ∃
 (s_20
 :
 List
 UInt8),
 ∃
 (n_26
 :
 Int),
 ∃
 (es_8
 :
 List
 AV),
 takeAt
 PI
 (nat_lit
 31)
 (pksL
 (resR
 s.nm
 s.l))
 (↑x :
 Int).toNat
 (nat_lit
 0) =
 some
 (AV.agg
 [AV.str
 s_17,
 AV.bool
 b_4,
 AV.int
 IntKind.i64
 n_22,
 AV.str
 s_18,
 AV.int
 IntKind.i64
 n_23,
 AV.int
 IntKind.i64
 n_24,
 AV.int
 IntKind.i64
 n_25,
 AV.str
 s_19,
 AV.str
 s_20,
 AV.int
 IntKind.i64
 n_26,
 AV.sl
 (nat_lit
 3)
 es_8
 Own.no]) ∧
 ∃
 (b_5
 :
 Bool),
 CallIs
 (tbl
 [(nat_lit
 7,
 s7),
 (nat_lit
 8,
 s9),
 (nat_lit
 9,
 z10),
 (nat_lit
 10,
 z10),
 (nat_lit
 11,
 z11),
 (nat_lit
 12,
 z12),
 (nat_lit
 13,
 s21),
 (nat_lit
 14,
 z14),
 (nat_lit
 15,
 z15),
 (nat_lit
 16,
 s22),
 (nat_lit
 17,
 z17),
 (nat_lit
 18,
 s23),
 (nat_lit
 19,
 z19)]
 (nat_lit
 15)
 [AV.agg
 [AV.str
 s_13,
 AV.bool
 b,
 AV.int
 IntKind.i64
 n,
 AV.str
 s_14,
 AV.int
 IntKind.i64
 n_18,
 AV.int
 IntKind.i64
 n_19,
 AV.int
 IntKind.i64
 n_20,
 AV.str
 s_15,
 AV.str
 s_16,
 AV.int
 IntKind.i64
 n_21,
 AV.sl
 (nat_lit
 3)
 es
 Own.no],
 AV.agg
 [AV.str
 s_17,
 AV.bool
 b_4,
 AV.int
 IntKind.i64
 n_22,
 AV.str
 s_18,
 AV.int
 IntKind.i64
 n_23,
 AV.int
 IntKind.i64
 n_24,
 AV.int
 IntKind.i64
 n_25,
 AV.str
 s_19,
 AV.str
 s_20,
 AV.int
 IntKind.i64
 n_26,
 AV.sl
 (nat_lit
 3)
 es_8
 Own.no]])
 (AV.bool
 b_5)
 [] ∧
 (b_5 =
 true →
 ∃
 (y
 :
 Nat),
 ValsAre
 [AV.ptr
 (nat_lit
 0)
 (nat_lit
 0),
 AV.ptr
 (nat_lit
 2)
 (nat_lit
 0),
 AV.sl
 (nat_lit
 11)
 (pksL
 (resP
 s.l))
 Own.no,
 AV.sl
 (nat_lit
 11)
 (pksL
 (resR
 s.nm
 s.l))
 Own.no,
 AV.int
 IntKind.i64
 (IntKind.i64.wrap
 ((↑x :
 Int) +
 (1 :
 Int)))]
 [AV.ptr
 (nat_lit
 0)
 (nat_lit
 0),
 AV.ptr
 (nat_lit
 2)
 (nat_lit
 0),
 AV.sl
 (nat_lit
 11)
 (pksL
 (resP
 s.l))
 Own.no,
 AV.sl
 (nat_lit
 11)
 (pksL
 (resR
 s.nm
 s.l))
 Own.no,
 AV.int
 IntKind.i64
 (↑y :
 Int)] ∧
 StIs
 { boxes:=[some [AV.str s.nm,AV.int IntKind.i64 s.nx,AV.sl (nat_lit 8) (fcsL s.l) Own.no],some [AV.str f.src,AV.int IntKind.i64 f.seq,AV.int IntKind.i64 f.kind,AV.int IntKind.i64 f.ref,AV.str f.table,AV.str f.key,AV.int IntKind.i64 f.event,AV.sl (nat_lit 3) (vasL f.fs) Own.no],some [AV.str p.src,AV.bool p.ack,AV.int IntKind.i64 p.next,AV.str p.f.src,AV.int IntKind.i64 p.f.seq,AV.int IntKind.i64 p.f.kind,AV.int IntKind.i64 p.f.ref,AV.str p.f.table,AV.str p.f.key,AV.int IntKind.i64 p.f.event,AV.sl (nat_lit 3) (vasL p.f.fs) Own.no],some [AV.str (srcP name).fst.nm,AV.int IntKind.i64 (srcP name).fst.nx,AV.sl (nat_lit 8) (fcsL (srcP name).fst.l) Own.no],some [AV.str (srcP name).fst.nm,AV.int IntKind.i64 (srcP name).fst.nx,AV.sl (nat_lit 8) (fcsL (srcP name).fst.l) Own.no],some [AV.str (subP s f).fst.nm,AV.int IntKind.i64 (subP s f).fst.nx,AV.sl (nat_lit 8) (fcsL (subP s f).fst.l) Own.no],some [AV.str (subP s f).snd.fst.src,AV.bool (subP s f).snd.fst.ack,AV.int IntKind.i64 (subP s f).snd.fst.next,AV.str (subP s f).snd.fst.f.src,AV.int IntKind.i64 (subP s f).snd.fst.f.seq,AV.int IntKind.i64 (subP s f).snd.fst.f.kind,AV.int IntKind.i64 (subP s f).snd.fst.f.ref,AV.str (subP s f).snd.fst.f.table,AV.str (subP s f).snd.fst.f.key,AV.int IntKind.i64 (subP s f).snd.fst.f.event,AV.sl (nat_lit 3) (vasL (subP s f).snd.fst.f.fs) Own.no],some [AV.str (subP s f).fst.nm,AV.int IntKind.i64 (subP s f).fst.nx,AV.sl (nat_lit 8) (fcsL (subP s f).fst.l) Own.no],some [AV.str (subP s f).snd.fst.src,AV.bool (subP s f).snd.fst.ack,AV.int IntKind.i64 (subP s f).snd.fst.next,AV.str (subP s f).snd.fst.f.src,AV.int IntKind.i64 (subP s f).snd.fst.f.seq,AV.int IntKind.i64 (subP s f).snd.fst.f.kind,AV.int IntKind.i64 (subP s f).snd.fst.f.ref,AV.str (subP s f).snd.fst.f.table,AV.str (subP s f).snd.fst.f.key,AV.int IntKind.i64 (subP s f).snd.fst.f.event,AV.sl (nat_lit 3) (vasL (subP s f).snd.fst.f.fs) Own.no]],live:=[] }
 { boxes:=[some [AV.str s.nm,AV.int IntKind.i64 s.nx,AV.sl (nat_lit 8) (fcsL s.l) Own.no],some [AV.str f.src,AV.int IntKind.i64 f.seq,AV.int IntKind.i64 f.kind,AV.int IntKind.i64 f.ref,AV.str f.table,AV.str f.key,AV.int IntKind.i64 f.event,AV.sl (nat_lit 3) (vasL f.fs) Own.no],some [AV.str p.src,AV.bool p.ack,AV.int IntKind.i64 p.next,AV.str p.f.src,AV.int IntKind.i64 p.f.seq,AV.int IntKind.i64 p.f.kind,AV.int IntKind.i64 p.f.ref,AV.str p.f.table,AV.str p.f.key,AV.int IntKind.i64 p.f.event,AV.sl (nat_lit 3) (vasL p.f.fs) Own.no],some [AV.str (srcP name).fst.nm,AV.int IntKind.i64 (srcP name).fst.nx,AV.sl (nat_lit 8) (fcsL (srcP name).fst.l) Own.no],some [AV.str (srcP name).fst.nm,AV.int IntKind.i64 (srcP name).fst.nx,AV.sl (nat_lit 8) (fcsL (srcP name).fst.l) Own.no],some [AV.str (subP s f).fst.nm,AV.int IntKind.i64 (subP s f).fst.nx,AV.sl (nat_lit 8) (fcsL (subP s f).fst.l) Own.no],some [AV.str (subP s f).snd.fst.src,AV.bool (subP s f).snd.fst.ack,AV.int IntKind.i64 (subP s f).snd.fst.next,AV.str (subP s f).snd.fst.f.src,AV.int IntKind.i64 (subP s f).snd.fst.f.seq,AV.int IntKind.i64 (subP s f).snd.fst.f.kind,AV.int IntKind.i64 (subP s f).snd.fst.f.ref,AV.str (subP s f).snd.fst.f.table,AV.str (subP s f).snd.fst.f.key,AV.int IntKind.i64 (subP s f).snd.fst.f.event,AV.sl (nat_lit 3) (vasL (subP s f).snd.fst.f.fs) Own.no],some [AV.str (subP s f).fst.nm,AV.int IntKind.i64 (subP s f).fst.nx,AV.sl (nat_lit 8) (fcsL (subP s f).fst.l) Own.no],some [AV.str (subP s f).snd.fst.src,AV.bool (subP s f).snd.fst.ack,AV.int IntKind.i64 (subP s f).snd.fst.next,AV.str (subP s f).snd.fst.f.src,AV.int IntKind.i64 (subP s f).snd.fst.f.seq,AV.int IntKind.i64 (subP s f).snd.fst.f.kind,AV.int IntKind.i64 (subP s f).snd.fst.f.ref,AV.str (subP s f).snd.fst.f.table,AV.str (subP s f).snd.fst.f.key,AV.int IntKind.i64 (subP s f).snd.fst.f.event,AV.sl (nat_lit 3) (vasL (subP s f).snd.fst.f.fs) Own.no]],live:=[] } ∧
 y ≤
 s.l.length ∧
 s.l.length -
 y <
 s.l.length -
 x) ∧
 (b_5 =
 false →
 RetIs
 (AV.bool
 false)
 []
 (AV.bool
 true,
 []))) ∧
 (decide
 ((↑x :
 Int) <
 (↑(pksL
 (resP
 s.l)).length :
 Int)) =
 false →
 ∃
 (s_13
 :
 List
 UInt8),
 ∃
 (n
 :
 Int),
 ∃
 (es
 :
 List
 AV),
 ∃
 (n_18
 :
 Int),
 CallIs
 (tbl
 [(nat_lit
 7,
 s7),
 (nat_lit
 8,
 s9),
 (nat_lit
 9,
 z10),
 (nat_lit
 10,
 z10),
 (nat_lit
 11,
 z11),
 (nat_lit
 12,
 z12),
 (nat_lit
 13,
 s21),
 (nat_lit
 14,
 z14),
 (nat_lit
 15,
 z15),
 (nat_lit
 16,
 s22),
 (nat_lit
 17,
 z17),
 (nat_lit
 18,
 s23),
 (nat_lit
 19,
 z19)]
 (nat_lit
 18)
 [AV.agg
 [AV.str
 s.nm,
 AV.int
 IntKind.i64
 s.nx,
 AV.sl
 (nat_lit
 8)
 (fcsL
 s.l)
 Own.no],
 AV.agg
 [AV.str
 p.src,
 AV.bool
 p.ack,
 AV.int
 IntKind.i64
 p.next,
 AV.str
 p.f.src,
 AV.int
 IntKind.i64
 p.f.seq,
 AV.int
 IntKind.i64
 p.f.kind,
 AV.int
 IntKind.i64
 p.f.ref,
 AV.str
 p.f.table,
 AV.str
 p.f.key,
 AV.int
 IntKind.i64
 p.f.event,
 AV.sl
 (nat_lit
 3)
 (vasL
 p.f.fs)
 Own.no]])
 (AV.tup
 [AV.agg
 [AV.str
 s_13,
 AV.int
 IntKind.i64
 n,
 AV.sl
 (nat_lit
 8)
 es
 Own.no],
 AV.int
 IntKind.i64
 n_18])
 [] ∧
 ∃
 (s_14
 :
 List
 UInt8),
 ∃
 (n_19
 :
 Int),
 ∃
 (es_8
 :
 List
 AV),
 ∃
 (n_20
 :
 Int),
 CallIs
 (tbl
 [(nat_lit
 7,
 s7),
 (nat_lit
 8,
 s9),
 (nat_lit
 9,
 z10),
 (nat_lit
 10,
 z10),
 (nat_lit
 11,
 z11),
 (nat_lit
 12,
 z12),
 (nat_lit
 13,
 s21),
 (nat_lit
 14,
 z14),
 (nat_lit
 15,
 z15),
 (nat_lit
 16,
 s22),
 (nat_lit
 17,
 z17),
 (nat_lit
 18,
 s23),
 (nat_lit
 19,
 z19)]
 (nat_lit
 19)
 [AV.agg
 [AV.str
 s.nm,
 AV.int
 IntKind.i64
 s.nx,
 AV.sl
 (nat_lit
 8)
 (fcsL
 s.l)
 Own.no],
 AV.agg
 [AV.str
 p.src,
 AV.bool
 p.ack,
 AV.int
 IntKind.i64
 p.next,
 AV.str
 p.f.src,
 AV.int
 IntKind.i64
 p.f.seq,
 AV.int
 IntKind.i64
 p.f.kind,
 AV.int
 IntKind.i64
 p.f.ref,
 AV.str
 p.f.table,
 AV.str
 p.f.key,
 AV.int
 IntKind.i64
 p.f.event,
 AV.sl
 (nat_lit
 3)
 (vasL
 p.f.fs)
 Own.no]])
 (AV.tup
 [AV.agg
 [AV.str
 s_14,
 AV.int
 IntKind.i64
 n_19,
 AV.sl
 (nat_lit
 8)
 es_8
 Own.no],
 AV.int
 IntKind.i64
 n_20])
 [] ∧
 ((n_18 ==
 n_20) =
 true →
 ∃
 (b
 :
 Bool),
 CallIs
 (tbl
 [(nat_lit
 7,
 s7),
 (nat_lit
 8,
 s9),
 (nat_lit
 9,
 z10),
 (nat_lit
 10,
 z10),
 (nat_lit
 11,
 z11),
 (nat_lit
 12,
 z12),
 (nat_lit
 13,
 s21),
 (nat_lit
 14,
 z14),
 (nat_lit
 15,
 z15),
 (nat_lit
 16,
 s22),
 (nat_lit
 17,
 z17),
 (nat_lit
 18,
 s23),
 (nat_lit
 19,
 z19)]
 (nat_lit
 11)
 [AV.agg
 [AV.str
 s_13,
 AV.int
 IntKind.i64
 n,
 AV.sl
 (nat_lit
 8)
 es
 Own.no],
 AV.agg
 [AV.str
 s_14,
 AV.int
 IntKind.i64
 n_19,
 AV.sl
 (nat_lit
 8)
 es_8
 Own.no]])
 (AV.bool
 b)
 [] ∧
 (b =
 true →
 RetIs
 (AV.bool
 true)
 []
 (AV.bool
 true,
 [])) ∧
 (b =
 false →
 RetIs
 (AV.bool
 false)
 []
 (AV.bool
 true,
 []))) ∧
 ((n_18 ==
 n_20) =
 false →
 RetIs
 (AV.bool
 false)
 []
 (AV.bool
 true,
 []))))) ∧
 (b_3 =
 false →
 RetIs
 (AV.bool
 false)
 []
 (AV.bool
 true,
 []))) ∧
 (b_2 = false →
 RetIs
 (AV.bool
 false)
 []
 (AV.bool
 true,
 [])))) ∧
 (b = false→RetIs (AV.bool true) [] (AV.bool true,[]))) ∧
 (b = false→RetIs (AV.bool false) [] (AV.bool true,[]))))) ∧
 (b = false→RetIs (AV.bool true) [] (AV.bool true,[]))) ∧
 (b = false→RetIs (AV.bool true) [] (AV.bool true,[])))) ∧
      (b = false→RetIs (AV.bool false) [] (AV.bool true,[]))):=by kernel_rfl
end Go.Abs
