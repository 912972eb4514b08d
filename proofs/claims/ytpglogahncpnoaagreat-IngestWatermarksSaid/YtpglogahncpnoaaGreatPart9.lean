/- Own texts, part 9. -/
import Derived.Test.YtpglogahncpnoaaGreatPart8

namespace Go.Abs
open Go.Proofs
theorem ww24s (m : Int) (w : WoI) (s n : Int) (r : WoI) : (lkW PI (GI m) (XAct 13) (tbl [(13, s21x)]) (itbl [(43, v43.up)]) (av24 w 0 s n) [] 24 [.agg (wCg w), .agg [.int .i64 0, .int .i64 s, .int .i64 n]] (wL w) (wA r, wL r)) =
(((decide ((↑(pksL w.c).length : Int) > (0 : Int)) = true →
      (↑(pksL w.c).length : Int) ≠ (0 : Int) ∧
        (↑(pksL w.c).length : Int) ≠ (0 : Int) ∧
 ∃ (_y : Unit),
 ValsAre
 [AV.ptr 0 0, AV.ptr 1 0, AV.ptr 2 0,
 AV.int IntKind.i64 (IntKind.i64.wrap (↑(BitVec.ofInt IntKind.i64.bits s &&& BitVec.ofInt IntKind.i64.bits (1 : Int)).toNat : Int)),
 AV.int IntKind.i64 ((IntKind.i64.wrap (n.tmod (↑(pksL w.c).length : Int) + (↑(pksL w.c).length : Int))).tmod (↑(pksL w.c).length : Int)),
 AV.int IntKind.i64 (↑(pksL w.c).length : Int)]
 [AV.ptr 0 0, AV.ptr 1 0, AV.ptr 2 0, AV.int IntKind.i64 (parI s),
 AV.int IntKind.i64 (nIdx w.c n), AV.int IntKind.i64 (↑w.c.length : Int)] ∧
 StIs
 { boxes := [some (wCg w), some [AV.int IntKind.i64 0, AV.int IntKind.i64 s, AV.int IntKind.i64 n], some [AV.str [], AV.int IntKind.i64 0, AV.sl 0 [] Own.nil, AV.str [], AV.int IntKind.i64 0, AV.sl 0 [] Own.nil, AV.sl 0 [] Own.nil, AV.sl 0 [] Own.nil, AV.sl 0 [] Own.nil, AV.sl 0 [] Own.nil, AV.bool false]], live := [(w.all.length, (29 : Nat)), (w.fresh.length, (29 : Nat))] }
 { boxes := [some (wCg w), some [AV.int IntKind.i64 0, AV.int IntKind.i64 s, AV.int IntKind.i64 n], some [AV.str [], AV.int IntKind.i64 0, AV.sl 0 [] Own.nil, AV.str [], AV.int IntKind.i64 0, AV.sl 0 [] Own.nil, AV.sl 0 [] Own.nil, AV.sl 0 [] Own.nil, AV.sl 0 [] Own.nil, AV.sl 0 [] Own.nil, AV.bool false]], live := [(w.all.length, (29 : Nat)), (w.fresh.length, (29 : Nat))] } ∧
 True ∧ True) ∧
    (decide ((↑(pksL w.c).length : Int) > (0 : Int)) = false →
      ∃ (_y : Unit),
        ValsAre
 [AV.ptr 0 0, AV.ptr 1 0, AV.ptr 2 0,
 AV.int IntKind.i64 (IntKind.i64.wrap (↑(BitVec.ofInt IntKind.i64.bits s &&& BitVec.ofInt IntKind.i64.bits (1 : Int)).toNat : Int)),
 AV.int IntKind.i64 (-1 : Int), AV.int IntKind.i64 (↑(pksL w.c).length : Int)]
 [AV.ptr 0 0, AV.ptr 1 0, AV.ptr 2 0, AV.int IntKind.i64 (parI s),
 AV.int IntKind.i64 (nIdx w.c n), AV.int IntKind.i64 (↑w.c.length : Int)] ∧
 StIs
 { boxes := [some (wCg w), some [AV.int IntKind.i64 0, AV.int IntKind.i64 s, AV.int IntKind.i64 n], some [AV.str [], AV.int IntKind.i64 0, AV.sl 0 [] Own.nil, AV.str [], AV.int IntKind.i64 0, AV.sl 0 [] Own.nil, AV.sl 0 [] Own.nil, AV.sl 0 [] Own.nil, AV.sl 0 [] Own.nil, AV.sl 0 [] Own.nil, AV.bool false]], live := [(w.all.length, (29 : Nat)), (w.fresh.length, (29 : Nat))] }
 { boxes := [some (wCg w), some [AV.int IntKind.i64 0, AV.int IntKind.i64 s, AV.int IntKind.i64 n], some [AV.str [], AV.int IntKind.i64 0, AV.sl 0 [] Own.nil, AV.str [], AV.int IntKind.i64 0, AV.sl 0 [] Own.nil, AV.sl 0 [] Own.nil, AV.sl 0 [] Own.nil, AV.sl 0 [] Own.nil, AV.sl 0 [] Own.nil, AV.bool false]], live := [(w.all.length, (29 : Nat)), (w.fresh.length, (29 : Nat))] } ∧
 True ∧ True)) ∧
  ∀ (_x : Unit),
    True →
      True →
        (parI s = (0 : Int) ∨ parI s = (1 : Int)) ∧
 (parI s = (0 : Int) →
 (true = true →
 ((0 : Int) ≤ (0 : Int) ∧ (0 : Int) < (2 : Int)) ∧
 ∃ (s : List UInt8),
 ∃ (n : Int),
 ∃ (es : List AV),
 ∃ (s_1 : List UInt8),
 ∃ (b : Bool),
 ∃ (n_1 : Int),
 ∃ (s_2 : List UInt8),
 ∃ (n_2 : Int),
 ∃ (n_3 : Int),
 ∃ (n_4 : Int),
 ∃ (s_3 : List UInt8),
 ∃ (s_4 : List UInt8),
 ∃ (n_5 : Int),
 ∃ (es_1 : List AV),
 ∃ (n_6 : Int),
 CallIs
 (tbl [((13 : Nat), s21x)] 13
 [AV.agg [AV.str w.a.nm, AV.int IntKind.i64 w.a.nx, AV.sl 8 (fcsL w.a.l) Own.no],
 AV.agg
 [AV.str [], AV.int IntKind.i64 0, AV.int IntKind.i64 1,
 AV.int IntKind.i64 0, AV.str [], AV.str [],
 AV.int IntKind.i64 (↑(fcsL w.all).length : Int), AV.sl 0 [] Own.nil]])
 (AV.tup
 [AV.agg [AV.str s, AV.int IntKind.i64 n, AV.sl 8 es Own.no],
 AV.agg
 [AV.str s_1, AV.bool b, AV.int IntKind.i64 n_1, AV.str s_2, AV.int IntKind.i64 n_2,
 AV.int IntKind.i64 n_3, AV.int IntKind.i64 n_4, AV.str s_3, AV.str s_4, AV.int IntKind.i64 n_5,
 AV.sl 3 es_1 Own.no],
 AV.int IntKind.i64 n_6])
 [] ∧
 ((n_6 == (410 : Int)) = true →
 RetK
 (AV.agg
 (wCg w))
 [(w.all.length, (29 : Nat)), (w.fresh.length, (29 : Nat))]
 (AV.agg
 (wC r),
 [(r.all.length, (29 : Nat)), (r.fresh.length, (29 : Nat))])) ∧
 ((n_6 == (410 : Int)) = false →
 (false = true →
 ((0 : Int) ≤ (0 : Int) ∧ (0 : Int) < (2 : Int)) ∧
 ((8 : Nat) = (8 : Nat) ∨ fcsL w.all = []) ∧
 ((fcsL w.all).length + (1 : Nat)) * (105 : Nat) ≤ (70368744177664 : Nat) ∧
 w.all.length = (fcsL w.all).length ∧
 (WAsk
 [AV.str s, AV.int IntKind.i64 n, AV.sl 8 es Own.no, AV.str w.b.nm,
 AV.int IntKind.i64 w.b.nx, AV.sl 8 (fcsL w.b.l) Own.no,
 AV.sl 11 (pksL w.c) Own.no, AV.sl 3 (bxsL w.r) Own.no,
 AV.sl 8
 (fcsL w.all ++
 [AV.agg
 [AV.str s_2, AV.int IntKind.i64 n_2, AV.int IntKind.i64 n_3,
 AV.int IntKind.i64 n_4, AV.str s_3, AV.str s_4, AV.int IntKind.i64 n_5,
 AV.sl 3 es_1 Own.no]])
 (Own.tok 0),
 AV.sl 8 (fcsL w.fresh) (Own.tok 1), AV.bool true]
 ((fcsL w.all).length + (1 : Nat)) w.fresh.length ∧
 PAsk
 [AV.str s_1, AV.bool b, AV.int IntKind.i64 n_1, AV.str s_2, AV.int IntKind.i64 n_2,
 AV.int IntKind.i64 n_3, AV.int IntKind.i64 n_4, AV.str s_3, AV.str s_4,
 AV.int IntKind.i64 n_5, AV.sl 3 es_1 Own.no]) ∧
 ∃ (s_5 : List UInt8),
 ∃ (n_7 : Int),
 ∃ (es_2 : List AV),
 ∃ (s_6 : List UInt8),
 ∃ (n_8 : Int),
 ∃ (es_3 : List AV),
 ∃ (es_4 : List AV),
 ∃ (es_5 : List AV),
 ∃ (es_6 : List AV),
 ∃ (es_7 : List AV),
 ∃ (b_1 : Bool),
 OutIs
 (keptWA
 (keptSend
 [AV.str s, AV.int IntKind.i64 n,
 AV.sl 8 es Own.no, AV.str w.b.nm,
 AV.int IntKind.i64 w.b.nx,
 AV.sl 8 (fcsL w.b.l) Own.no,
 AV.sl 11 (pksL w.c) Own.no,
 AV.sl 3 (bxsL w.r) Own.no,
 AV.sl 8
 (fcsL w.all ++
 [AV.agg
 [AV.str s_2, AV.int IntKind.i64 n_2,
 AV.int IntKind.i64 n_3, AV.int IntKind.i64 n_4,
 AV.str s_3, AV.str s_4, AV.int IntKind.i64 n_5,
 AV.sl 3 es_1 Own.no]])
 (Own.tok 0),
 AV.sl 8 (fcsL w.fresh) (Own.tok 1),
 AV.bool true]
 [AV.str s_1, AV.bool b, AV.int IntKind.i64 n_1, AV.str s_2,
 AV.int IntKind.i64 n_2, AV.int IntKind.i64 n_3,
 AV.int IntKind.i64 n_4, AV.str s_3, AV.str s_4,
 AV.int IntKind.i64 n_5, AV.sl 3 es_1 Own.no]))
 (AV.agg
 [AV.str s_5, AV.int IntKind.i64 n_7,
 AV.sl 8 es_2 Own.no, AV.str s_6,
 AV.int IntKind.i64 n_8, AV.sl 8 es_3 Own.no,
 AV.sl 11 es_4 Own.no,
 AV.sl 3 es_5 Own.no,
 AV.sl 8 es_6 (Own.tok 0),
 AV.sl 8 es_7 (Own.tok 1),
 AV.bool b_1]) ∧
 RetK
 (AV.agg
 [AV.str s_5, AV.int IntKind.i64 n_7,
 AV.sl 8 es_2 Own.no, AV.str s_6,
 AV.int IntKind.i64 n_8, AV.sl 8 es_3 Own.no,
 AV.sl 11 es_4 Own.no,
 AV.sl 3 es_5 Own.no,
 AV.sl 8 es_6 (Own.tok 0),
 AV.sl 8 es_7 (Own.tok 1), AV.bool b_1])
 [((keptSend
 [AV.str s, AV.int IntKind.i64 n,
 AV.sl 8 es Own.no, AV.str w.b.nm,
 AV.int IntKind.i64 w.b.nx,
 AV.sl 8 (fcsL w.b.l) Own.no,
 AV.sl 11 (pksL w.c) Own.no,
 AV.sl 3 (bxsL w.r) Own.no,
 AV.sl 8
 (fcsL w.all ++
 [AV.agg
 [AV.str s_2, AV.int IntKind.i64 n_2,
 AV.int IntKind.i64 n_3,
 AV.int IntKind.i64 n_4, AV.str s_3,
 AV.str s_4, AV.int IntKind.i64 n_5,
 AV.sl 3 es_1 Own.no]])
 (Own.tok 0),
 AV.sl 8 (fcsL w.fresh)
 (Own.tok 1),
 AV.bool true]
 [AV.str s_1, AV.bool b, AV.int IntKind.i64 n_1,
 AV.str s_2, AV.int IntKind.i64 n_2,
 AV.int IntKind.i64 n_3, AV.int IntKind.i64 n_4,
 AV.str s_3, AV.str s_4, AV.int IntKind.i64 n_5,
 AV.sl 3 es_1 Own.no]).all.length,
 (29 : Nat)),
 ((keptSend
 [AV.str s, AV.int IntKind.i64 n,
 AV.sl 8 es Own.no, AV.str w.b.nm,
 AV.int IntKind.i64 w.b.nx,
 AV.sl 8 (fcsL w.b.l) Own.no,
 AV.sl 11 (pksL w.c) Own.no,
 AV.sl 3 (bxsL w.r) Own.no,
 AV.sl 8
 (fcsL w.all ++
 [AV.agg
 [AV.str s_2, AV.int IntKind.i64 n_2,
 AV.int IntKind.i64 n_3,
 AV.int IntKind.i64 n_4, AV.str s_3,
 AV.str s_4, AV.int IntKind.i64 n_5,
 AV.sl 3 es_1 Own.no]])
 (Own.tok 0),
 AV.sl 8 (fcsL w.fresh)
 (Own.tok 1),
 AV.bool true]
 [AV.str s_1, AV.bool b, AV.int IntKind.i64 n_1,
 AV.str s_2, AV.int IntKind.i64 n_2,
 AV.int IntKind.i64 n_3, AV.int IntKind.i64 n_4,
 AV.str s_3, AV.str s_4, AV.int IntKind.i64 n_5,
 AV.sl 3 es_1 Own.no]).fresh.length,
 (29 : Nat))]
 (AV.agg
 (wC r),
 [(r.all.length, (29 : Nat)), (r.fresh.length, (29 : Nat))])) ∧
 (false = false →
 ((n_6 != (0 : Int)) = true →
 ((0 : Int) ≤ (0 : Int) ∧ (0 : Int) < (2 : Int)) ∧
 ((8 : Nat) = (8 : Nat) ∨ fcsL w.all = []) ∧
 ((fcsL w.all).length + (1 : Nat)) * (105 : Nat) ≤ (70368744177664 : Nat) ∧
 w.all.length = (fcsL w.all).length ∧
 (WAsk
 [AV.str s, AV.int IntKind.i64 n, AV.sl 8 es Own.no, AV.str w.b.nm,
 AV.int IntKind.i64 w.b.nx, AV.sl 8 (fcsL w.b.l) Own.no,
 AV.sl 11 (pksL w.c) Own.no, AV.sl 3 (bxsL w.r) Own.no,
 AV.sl 8
 (fcsL w.all ++
 [AV.agg
 [AV.str s_2, AV.int IntKind.i64 n_2, AV.int IntKind.i64 n_3,
 AV.int IntKind.i64 n_4, AV.str s_3, AV.str s_4,
 AV.int IntKind.i64 n_5, AV.sl 3 es_1 Own.no]])
 (Own.tok 0),
 AV.sl 8 (fcsL w.fresh) (Own.tok 1), AV.bool true]
 ((fcsL w.all).length + (1 : Nat)) w.fresh.length ∧
 PAsk
 [AV.str s_1, AV.bool b, AV.int IntKind.i64 n_1, AV.str s_2,
 AV.int IntKind.i64 n_2, AV.int IntKind.i64 n_3, AV.int IntKind.i64 n_4,
 AV.str s_3, AV.str s_4, AV.int IntKind.i64 n_5,
 AV.sl 3 es_1 Own.no]) ∧
 ∃ (s_5 : List UInt8),
 ∃ (n_7 : Int),
 ∃ (es_2 : List AV),
 ∃ (s_6 : List UInt8),
 ∃ (n_8 : Int),
 ∃ (es_3 : List AV),
 ∃ (es_4 : List AV),
 ∃ (es_5 : List AV),
 ∃ (es_6 : List AV),
 ∃ (es_7 : List AV),
 ∃ (b_1 : Bool),
 OutIs
 (keptWA
 (keptSend
 [AV.str s, AV.int IntKind.i64 n,
 AV.sl 8 es Own.no, AV.str w.b.nm,
 AV.int IntKind.i64 w.b.nx,
 AV.sl 8 (fcsL w.b.l) Own.no,
 AV.sl 11 (pksL w.c) Own.no,
 AV.sl 3 (bxsL w.r) Own.no,
 AV.sl 8
 (fcsL w.all ++
 [AV.agg
 [AV.str s_2, AV.int IntKind.i64 n_2,
 AV.int IntKind.i64 n_3,
 AV.int IntKind.i64 n_4, AV.str s_3,
 AV.str s_4, AV.int IntKind.i64 n_5,
 AV.sl 3 es_1 Own.no]])
 (Own.tok 0),
 AV.sl 8 (fcsL w.fresh)
 (Own.tok 1),
 AV.bool true]
 [AV.str s_1, AV.bool b, AV.int IntKind.i64 n_1,
 AV.str s_2, AV.int IntKind.i64 n_2,
 AV.int IntKind.i64 n_3, AV.int IntKind.i64 n_4,
 AV.str s_3, AV.str s_4, AV.int IntKind.i64 n_5,
 AV.sl 3 es_1 Own.no]))
 (AV.agg
 [AV.str s_5, AV.int IntKind.i64 n_7,
 AV.sl 8 es_2 Own.no, AV.str s_6,
 AV.int IntKind.i64 n_8, AV.sl 8 es_3 Own.no,
 AV.sl 11 es_4 Own.no,
 AV.sl 3 es_5 Own.no,
 AV.sl 8 es_6 (Own.tok 0),
 AV.sl 8 es_7 (Own.tok 1),
 AV.bool b_1]) ∧
 RetK
 (AV.agg
 [AV.str s_5, AV.int IntKind.i64 n_7,
 AV.sl 8 es_2 Own.no, AV.str s_6,
 AV.int IntKind.i64 n_8, AV.sl 8 es_3 Own.no,
 AV.sl 11 es_4 Own.no,
 AV.sl 3 es_5 Own.no,
 AV.sl 8 es_6 (Own.tok 0),
 AV.sl 8 es_7 (Own.tok 1),
 AV.bool b_1])
 [((keptSend
 [AV.str s, AV.int IntKind.i64 n,
 AV.sl 8 es Own.no, AV.str w.b.nm,
 AV.int IntKind.i64 w.b.nx,
 AV.sl 8 (fcsL w.b.l) Own.no,
 AV.sl 11 (pksL w.c) Own.no,
 AV.sl 3 (bxsL w.r) Own.no,
 AV.sl 8
 (fcsL w.all ++
 [AV.agg
 [AV.str s_2, AV.int IntKind.i64 n_2,
 AV.int IntKind.i64 n_3,
 AV.int IntKind.i64 n_4, AV.str s_3,
 AV.str s_4, AV.int IntKind.i64 n_5,
 AV.sl 3 es_1 Own.no]])
 (Own.tok 0),
 AV.sl 8 (fcsL w.fresh)
 (Own.tok 1),
 AV.bool true]
 [AV.str s_1, AV.bool b, AV.int IntKind.i64 n_1,
 AV.str s_2, AV.int IntKind.i64 n_2,
 AV.int IntKind.i64 n_3, AV.int IntKind.i64 n_4,
 AV.str s_3, AV.str s_4, AV.int IntKind.i64 n_5,
 AV.sl 3 es_1 Own.no]).all.length,
 (29 : Nat)),
 ((keptSend
 [AV.str s, AV.int IntKind.i64 n,
 AV.sl 8 es Own.no, AV.str w.b.nm,
 AV.int IntKind.i64 w.b.nx,
 AV.sl 8 (fcsL w.b.l) Own.no,
 AV.sl 11 (pksL w.c) Own.no,
 AV.sl 3 (bxsL w.r) Own.no,
 AV.sl 8
 (fcsL w.all ++
 [AV.agg
 [AV.str s_2, AV.int IntKind.i64 n_2,
 AV.int IntKind.i64 n_3,
 AV.int IntKind.i64 n_4, AV.str s_3,
 AV.str s_4, AV.int IntKind.i64 n_5,
 AV.sl 3 es_1 Own.no]])
 (Own.tok 0),
 AV.sl 8 (fcsL w.fresh)
 (Own.tok 1),
 AV.bool true]
 [AV.str s_1, AV.bool b, AV.int IntKind.i64 n_1,
 AV.str s_2, AV.int IntKind.i64 n_2,
 AV.int IntKind.i64 n_3, AV.int IntKind.i64 n_4,
 AV.str s_3, AV.str s_4, AV.int IntKind.i64 n_5,
 AV.sl 3 es_1 Own.no]).fresh.length,
 (29 : Nat))]
 (AV.agg
 (wC r),
 [(r.all.length, (29 : Nat)),
 (r.fresh.length, (29 : Nat))])) ∧
 ((n_6 != (0 : Int)) = false →
 ((0 : Int) ≤ (0 : Int) ∧ (0 : Int) < (2 : Int)) ∧
 ((8 : Nat) = (8 : Nat) ∨ fcsL w.all = []) ∧
 ((fcsL w.all).length + (1 : Nat)) * (105 : Nat) ≤ (70368744177664 : Nat) ∧
 w.all.length = (fcsL w.all).length ∧
 (WAsk
 [AV.str s, AV.int IntKind.i64 n, AV.sl 8 es Own.no, AV.str w.b.nm,
 AV.int IntKind.i64 w.b.nx, AV.sl 8 (fcsL w.b.l) Own.no,
 AV.sl 11 (pksL w.c) Own.no, AV.sl 3 (bxsL w.r) Own.no,
 AV.sl 8
 (fcsL w.all ++
 [AV.agg
 [AV.str s_2, AV.int IntKind.i64 n_2, AV.int IntKind.i64 n_3,
 AV.int IntKind.i64 n_4, AV.str s_3, AV.str s_4,
 AV.int IntKind.i64 n_5, AV.sl 3 es_1 Own.no]])
 (Own.tok 0),
 AV.sl 8 (fcsL w.fresh) (Own.tok 1), AV.bool false]
 ((fcsL w.all).length + (1 : Nat)) w.fresh.length ∧
 PAsk
 [AV.str s_1, AV.bool b, AV.int IntKind.i64 n_1, AV.str s_2,
 AV.int IntKind.i64 n_2, AV.int IntKind.i64 n_3, AV.int IntKind.i64 n_4,
 AV.str s_3, AV.str s_4, AV.int IntKind.i64 n_5,
 AV.sl 3 es_1 Own.no]) ∧
 ∃ (s_5 : List UInt8),
 ∃ (n_7 : Int),
 ∃ (es_2 : List AV),
 ∃ (s_6 : List UInt8),
 ∃ (n_8 : Int),
 ∃ (es_3 : List AV),
 ∃ (es_4 : List AV),
 ∃ (es_5 : List AV),
 ∃ (es_6 : List AV),
 ∃ (es_7 : List AV),
 ∃ (b_1 : Bool),
 OutIs
 (keptWA
 (keptSend
 [AV.str s, AV.int IntKind.i64 n,
 AV.sl 8 es Own.no, AV.str w.b.nm,
 AV.int IntKind.i64 w.b.nx,
 AV.sl 8 (fcsL w.b.l) Own.no,
 AV.sl 11 (pksL w.c) Own.no,
 AV.sl 3 (bxsL w.r) Own.no,
 AV.sl 8
 (fcsL w.all ++
 [AV.agg
 [AV.str s_2, AV.int IntKind.i64 n_2,
 AV.int IntKind.i64 n_3,
 AV.int IntKind.i64 n_4, AV.str s_3,
 AV.str s_4, AV.int IntKind.i64 n_5,
 AV.sl 3 es_1 Own.no]])
 (Own.tok 0),
 AV.sl 8 (fcsL w.fresh)
 (Own.tok 1),
 AV.bool false]
 [AV.str s_1, AV.bool b, AV.int IntKind.i64 n_1,
 AV.str s_2, AV.int IntKind.i64 n_2,
 AV.int IntKind.i64 n_3, AV.int IntKind.i64 n_4,
 AV.str s_3, AV.str s_4, AV.int IntKind.i64 n_5,
 AV.sl 3 es_1 Own.no]))
 (AV.agg
 [AV.str s_5, AV.int IntKind.i64 n_7,
 AV.sl 8 es_2 Own.no, AV.str s_6,
 AV.int IntKind.i64 n_8, AV.sl 8 es_3 Own.no,
 AV.sl 11 es_4 Own.no,
 AV.sl 3 es_5 Own.no,
 AV.sl 8 es_6 (Own.tok 0),
 AV.sl 8 es_7 (Own.tok 1),
 AV.bool b_1]) ∧
 RetK
 (AV.agg
 [AV.str s_5, AV.int IntKind.i64 n_7,
 AV.sl 8 es_2 Own.no, AV.str s_6,
 AV.int IntKind.i64 n_8, AV.sl 8 es_3 Own.no,
 AV.sl 11 es_4 Own.no,
 AV.sl 3 es_5 Own.no,
 AV.sl 8 es_6 (Own.tok 0),
 AV.sl 8 es_7 (Own.tok 1),
 AV.bool b_1])
 [((keptSend
 [AV.str s, AV.int IntKind.i64 n,
 AV.sl 8 es Own.no, AV.str w.b.nm,
 AV.int IntKind.i64 w.b.nx,
 AV.sl 8 (fcsL w.b.l) Own.no,
 AV.sl 11 (pksL w.c) Own.no,
 AV.sl 3 (bxsL w.r) Own.no,
 AV.sl 8
 (fcsL w.all ++
 [AV.agg
 [AV.str s_2, AV.int IntKind.i64 n_2,
 AV.int IntKind.i64 n_3,
 AV.int IntKind.i64 n_4, AV.str s_3,
 AV.str s_4, AV.int IntKind.i64 n_5,
 AV.sl 3 es_1 Own.no]])
 (Own.tok 0),
 AV.sl 8 (fcsL w.fresh)
 (Own.tok 1),
 AV.bool false]
 [AV.str s_1, AV.bool b, AV.int IntKind.i64 n_1,
 AV.str s_2, AV.int IntKind.i64 n_2,
 AV.int IntKind.i64 n_3, AV.int IntKind.i64 n_4,
 AV.str s_3, AV.str s_4, AV.int IntKind.i64 n_5,
 AV.sl 3 es_1 Own.no]).all.length,
 (29 : Nat)),
 ((keptSend
 [AV.str s, AV.int IntKind.i64 n,
 AV.sl 8 es Own.no, AV.str w.b.nm,
 AV.int IntKind.i64 w.b.nx,
 AV.sl 8 (fcsL w.b.l) Own.no,
 AV.sl 11 (pksL w.c) Own.no,
 AV.sl 3 (bxsL w.r) Own.no,
 AV.sl 8
 (fcsL w.all ++
 [AV.agg
 [AV.str s_2, AV.int IntKind.i64 n_2,
 AV.int IntKind.i64 n_3,
 AV.int IntKind.i64 n_4, AV.str s_3,
 AV.str s_4, AV.int IntKind.i64 n_5,
 AV.sl 3 es_1 Own.no]])
 (Own.tok 0),
 AV.sl 8 (fcsL w.fresh)
 (Own.tok 1),
 AV.bool false]
 [AV.str s_1, AV.bool b, AV.int IntKind.i64 n_1,
 AV.str s_2, AV.int IntKind.i64 n_2,
 AV.int IntKind.i64 n_3, AV.int IntKind.i64 n_4,
 AV.str s_3, AV.str s_4, AV.int IntKind.i64 n_5,
 AV.sl 3 es_1 Own.no]).fresh.length,
 (29 : Nat))]
 (AV.agg
 (wC r),
 [(r.all.length, (29 : Nat)),
 (r.fresh.length, (29 : Nat))]))))) ∧
 (true = false →
 (false = true → False) ∧
 (false = false →
 (false = true → False) ∧
 (false = false →
 (false = true → False) ∧
 (false = false →
 (false = true → ((0 : Int) ≤ (0 : Int) ∧ (0 : Int) < (2 : Int)) ∧ False) ∧
 (false = false →
 RetK
 (AV.agg
 (wCg w))
 [(w.all.length, (29 : Nat)), (w.fresh.length, (29 : Nat))]
 (AV.agg
 (wC r),
 [(r.all.length, (29 : Nat)), (r.fresh.length, (29 : Nat))]))))))) ∧
 (parI s = (1 : Int) →
 (true = true →
 ((0 : Int) ≤ (1 : Int) ∧ (1 : Int) < (2 : Int)) ∧
 ∃ (s : List UInt8),
 ∃ (n : Int),
 ∃ (es : List AV),
 ∃ (s_1 : List UInt8),
 ∃ (b : Bool),
 ∃ (n_1 : Int),
 ∃ (s_2 : List UInt8),
 ∃ (n_2 : Int),
 ∃ (n_3 : Int),
 ∃ (n_4 : Int),
 ∃ (s_3 : List UInt8),
 ∃ (s_4 : List UInt8),
 ∃ (n_5 : Int),
 ∃ (es_1 : List AV),
 ∃ (n_6 : Int),
 CallIs
 (tbl [((13 : Nat), s21x)] 13
 [AV.agg [AV.str w.b.nm, AV.int IntKind.i64 w.b.nx, AV.sl 8 (fcsL w.b.l) Own.no],
 AV.agg
 [AV.str [], AV.int IntKind.i64 0, AV.int IntKind.i64 1,
 AV.int IntKind.i64 0, AV.str [], AV.str [],
 AV.int IntKind.i64 (↑(fcsL w.all).length : Int), AV.sl 0 [] Own.nil]])
 (AV.tup
 [AV.agg [AV.str s, AV.int IntKind.i64 n, AV.sl 8 es Own.no],
 AV.agg
 [AV.str s_1, AV.bool b, AV.int IntKind.i64 n_1, AV.str s_2, AV.int IntKind.i64 n_2,
 AV.int IntKind.i64 n_3, AV.int IntKind.i64 n_4, AV.str s_3, AV.str s_4, AV.int IntKind.i64 n_5,
 AV.sl 3 es_1 Own.no],
 AV.int IntKind.i64 n_6])
 [] ∧
 ((n_6 == (410 : Int)) = true →
 RetK
 (AV.agg
 (wCg w))
 [(w.all.length, (29 : Nat)), (w.fresh.length, (29 : Nat))]
 (AV.agg
 (wC r),
 [(r.all.length, (29 : Nat)), (r.fresh.length, (29 : Nat))])) ∧
 ((n_6 == (410 : Int)) = false →
 (false = true →
 ((0 : Int) ≤ (1 : Int) ∧ (1 : Int) < (2 : Int)) ∧
 ((8 : Nat) = (8 : Nat) ∨ fcsL w.all = []) ∧
 ((fcsL w.all).length + (1 : Nat)) * (105 : Nat) ≤ (70368744177664 : Nat) ∧
 w.all.length = (fcsL w.all).length ∧
 (WAsk
 [AV.str w.a.nm, AV.int IntKind.i64 w.a.nx, AV.sl 8 (fcsL w.a.l) Own.no,
 AV.str s, AV.int IntKind.i64 n, AV.sl 8 es Own.no,
 AV.sl 11 (pksL w.c) Own.no, AV.sl 3 (bxsL w.r) Own.no,
 AV.sl 8
 (fcsL w.all ++
 [AV.agg
 [AV.str s_2, AV.int IntKind.i64 n_2, AV.int IntKind.i64 n_3,
 AV.int IntKind.i64 n_4, AV.str s_3, AV.str s_4, AV.int IntKind.i64 n_5,
 AV.sl 3 es_1 Own.no]])
 (Own.tok 0),
 AV.sl 8 (fcsL w.fresh) (Own.tok 1), AV.bool true]
 ((fcsL w.all).length + (1 : Nat)) w.fresh.length ∧
 PAsk
 [AV.str s_1, AV.bool b, AV.int IntKind.i64 n_1, AV.str s_2, AV.int IntKind.i64 n_2,
 AV.int IntKind.i64 n_3, AV.int IntKind.i64 n_4, AV.str s_3, AV.str s_4,
 AV.int IntKind.i64 n_5, AV.sl 3 es_1 Own.no]) ∧
 ∃ (s_5 : List UInt8),
 ∃ (n_7 : Int),
 ∃ (es_2 : List AV),
 ∃ (s_6 : List UInt8),
 ∃ (n_8 : Int),
 ∃ (es_3 : List AV),
 ∃ (es_4 : List AV),
 ∃ (es_5 : List AV),
 ∃ (es_6 : List AV),
 ∃ (es_7 : List AV),
 ∃ (b_1 : Bool),
 OutIs
 (keptWA
 (keptSend
 [AV.str w.a.nm, AV.int IntKind.i64 w.a.nx,
 AV.sl 8 (fcsL w.a.l) Own.no, AV.str s,
 AV.int IntKind.i64 n, AV.sl 8 es Own.no,
 AV.sl 11 (pksL w.c) Own.no,
 AV.sl 3 (bxsL w.r) Own.no,
 AV.sl 8
 (fcsL w.all ++
 [AV.agg
 [AV.str s_2, AV.int IntKind.i64 n_2,
 AV.int IntKind.i64 n_3, AV.int IntKind.i64 n_4,
 AV.str s_3, AV.str s_4, AV.int IntKind.i64 n_5,
 AV.sl 3 es_1 Own.no]])
 (Own.tok 0),
 AV.sl 8 (fcsL w.fresh) (Own.tok 1),
 AV.bool true]
 [AV.str s_1, AV.bool b, AV.int IntKind.i64 n_1, AV.str s_2,
 AV.int IntKind.i64 n_2, AV.int IntKind.i64 n_3,
 AV.int IntKind.i64 n_4, AV.str s_3, AV.str s_4,
 AV.int IntKind.i64 n_5, AV.sl 3 es_1 Own.no]))
 (AV.agg
 [AV.str s_5, AV.int IntKind.i64 n_7,
 AV.sl 8 es_2 Own.no, AV.str s_6,
 AV.int IntKind.i64 n_8, AV.sl 8 es_3 Own.no,
 AV.sl 11 es_4 Own.no,
 AV.sl 3 es_5 Own.no,
 AV.sl 8 es_6 (Own.tok 0),
 AV.sl 8 es_7 (Own.tok 1),
 AV.bool b_1]) ∧
 RetK
 (AV.agg
 [AV.str s_5, AV.int IntKind.i64 n_7,
 AV.sl 8 es_2 Own.no, AV.str s_6,
 AV.int IntKind.i64 n_8, AV.sl 8 es_3 Own.no,
 AV.sl 11 es_4 Own.no,
 AV.sl 3 es_5 Own.no,
 AV.sl 8 es_6 (Own.tok 0),
 AV.sl 8 es_7 (Own.tok 1), AV.bool b_1])
 [((keptSend
 [AV.str w.a.nm, AV.int IntKind.i64 w.a.nx,
 AV.sl 8 (fcsL w.a.l) Own.no, AV.str s,
 AV.int IntKind.i64 n, AV.sl 8 es Own.no,
 AV.sl 11 (pksL w.c) Own.no,
 AV.sl 3 (bxsL w.r) Own.no,
 AV.sl 8
 (fcsL w.all ++
 [AV.agg
 [AV.str s_2, AV.int IntKind.i64 n_2,
 AV.int IntKind.i64 n_3,
 AV.int IntKind.i64 n_4, AV.str s_3,
 AV.str s_4, AV.int IntKind.i64 n_5,
 AV.sl 3 es_1 Own.no]])
 (Own.tok 0),
 AV.sl 8 (fcsL w.fresh)
 (Own.tok 1),
 AV.bool true]
 [AV.str s_1, AV.bool b, AV.int IntKind.i64 n_1,
 AV.str s_2, AV.int IntKind.i64 n_2,
 AV.int IntKind.i64 n_3, AV.int IntKind.i64 n_4,
 AV.str s_3, AV.str s_4, AV.int IntKind.i64 n_5,
 AV.sl 3 es_1 Own.no]).all.length,
 (29 : Nat)),
 ((keptSend
 [AV.str w.a.nm, AV.int IntKind.i64 w.a.nx,
 AV.sl 8 (fcsL w.a.l) Own.no, AV.str s,
 AV.int IntKind.i64 n, AV.sl 8 es Own.no,
 AV.sl 11 (pksL w.c) Own.no,
 AV.sl 3 (bxsL w.r) Own.no,
 AV.sl 8
 (fcsL w.all ++
 [AV.agg
 [AV.str s_2, AV.int IntKind.i64 n_2,
 AV.int IntKind.i64 n_3,
 AV.int IntKind.i64 n_4, AV.str s_3,
 AV.str s_4, AV.int IntKind.i64 n_5,
 AV.sl 3 es_1 Own.no]])
 (Own.tok 0),
 AV.sl 8 (fcsL w.fresh)
 (Own.tok 1),
 AV.bool true]
 [AV.str s_1, AV.bool b, AV.int IntKind.i64 n_1,
 AV.str s_2, AV.int IntKind.i64 n_2,
 AV.int IntKind.i64 n_3, AV.int IntKind.i64 n_4,
 AV.str s_3, AV.str s_4, AV.int IntKind.i64 n_5,
 AV.sl 3 es_1 Own.no]).fresh.length,
 (29 : Nat))]
 (AV.agg
 (wC r),
 [(r.all.length, (29 : Nat)), (r.fresh.length, (29 : Nat))])) ∧
 (false = false →
 ((n_6 != (0 : Int)) = true →
 ((0 : Int) ≤ (1 : Int) ∧ (1 : Int) < (2 : Int)) ∧
 ((8 : Nat) = (8 : Nat) ∨ fcsL w.all = []) ∧
 ((fcsL w.all).length + (1 : Nat)) * (105 : Nat) ≤ (70368744177664 : Nat) ∧
 w.all.length = (fcsL w.all).length ∧
 (WAsk
 [AV.str w.a.nm, AV.int IntKind.i64 w.a.nx, AV.sl 8 (fcsL w.a.l) Own.no,
 AV.str s, AV.int IntKind.i64 n, AV.sl 8 es Own.no,
 AV.sl 11 (pksL w.c) Own.no, AV.sl 3 (bxsL w.r) Own.no,
 AV.sl 8
 (fcsL w.all ++
 [AV.agg
 [AV.str s_2, AV.int IntKind.i64 n_2, AV.int IntKind.i64 n_3,
 AV.int IntKind.i64 n_4, AV.str s_3, AV.str s_4,
 AV.int IntKind.i64 n_5, AV.sl 3 es_1 Own.no]])
 (Own.tok 0),
 AV.sl 8 (fcsL w.fresh) (Own.tok 1), AV.bool true]
 ((fcsL w.all).length + (1 : Nat)) w.fresh.length ∧
 PAsk
 [AV.str s_1, AV.bool b, AV.int IntKind.i64 n_1, AV.str s_2,
 AV.int IntKind.i64 n_2, AV.int IntKind.i64 n_3, AV.int IntKind.i64 n_4,
 AV.str s_3, AV.str s_4, AV.int IntKind.i64 n_5,
 AV.sl 3 es_1 Own.no]) ∧
 ∃ (s_5 : List UInt8),
 ∃ (n_7 : Int),
 ∃ (es_2 : List AV),
 ∃ (s_6 : List UInt8),
 ∃ (n_8 : Int),
 ∃ (es_3 : List AV),
 ∃ (es_4 : List AV),
 ∃ (es_5 : List AV),
 ∃ (es_6 : List AV),
 ∃ (es_7 : List AV),
 ∃ (b_1 : Bool),
 OutIs
 (keptWA
 (keptSend
 [AV.str w.a.nm, AV.int IntKind.i64 w.a.nx,
 AV.sl 8 (fcsL w.a.l) Own.no, AV.str s,
 AV.int IntKind.i64 n, AV.sl 8 es Own.no,
 AV.sl 11 (pksL w.c) Own.no,
 AV.sl 3 (bxsL w.r) Own.no,
 AV.sl 8
 (fcsL w.all ++
 [AV.agg
 [AV.str s_2, AV.int IntKind.i64 n_2,
 AV.int IntKind.i64 n_3,
 AV.int IntKind.i64 n_4, AV.str s_3,
 AV.str s_4, AV.int IntKind.i64 n_5,
 AV.sl 3 es_1 Own.no]])
 (Own.tok 0),
 AV.sl 8 (fcsL w.fresh)
 (Own.tok 1),
 AV.bool true]
 [AV.str s_1, AV.bool b, AV.int IntKind.i64 n_1,
 AV.str s_2, AV.int IntKind.i64 n_2,
 AV.int IntKind.i64 n_3, AV.int IntKind.i64 n_4,
 AV.str s_3, AV.str s_4, AV.int IntKind.i64 n_5,
 AV.sl 3 es_1 Own.no]))
 (AV.agg
 [AV.str s_5, AV.int IntKind.i64 n_7,
 AV.sl 8 es_2 Own.no, AV.str s_6,
 AV.int IntKind.i64 n_8, AV.sl 8 es_3 Own.no,
 AV.sl 11 es_4 Own.no,
 AV.sl 3 es_5 Own.no,
 AV.sl 8 es_6 (Own.tok 0),
 AV.sl 8 es_7 (Own.tok 1),
 AV.bool b_1]) ∧
 RetK
 (AV.agg
 [AV.str s_5, AV.int IntKind.i64 n_7,
 AV.sl 8 es_2 Own.no, AV.str s_6,
 AV.int IntKind.i64 n_8, AV.sl 8 es_3 Own.no,
 AV.sl 11 es_4 Own.no,
 AV.sl 3 es_5 Own.no,
 AV.sl 8 es_6 (Own.tok 0),
 AV.sl 8 es_7 (Own.tok 1),
 AV.bool b_1])
 [((keptSend
 [AV.str w.a.nm, AV.int IntKind.i64 w.a.nx,
 AV.sl 8 (fcsL w.a.l) Own.no, AV.str s,
 AV.int IntKind.i64 n,
 AV.sl 8 es Own.no,
 AV.sl 11 (pksL w.c) Own.no,
 AV.sl 3 (bxsL w.r) Own.no,
 AV.sl 8
 (fcsL w.all ++
 [AV.agg
 [AV.str s_2, AV.int IntKind.i64 n_2,
 AV.int IntKind.i64 n_3,
 AV.int IntKind.i64 n_4, AV.str s_3,
 AV.str s_4, AV.int IntKind.i64 n_5,
 AV.sl 3 es_1 Own.no]])
 (Own.tok 0),
 AV.sl 8 (fcsL w.fresh)
 (Own.tok 1),
 AV.bool true]
 [AV.str s_1, AV.bool b, AV.int IntKind.i64 n_1,
 AV.str s_2, AV.int IntKind.i64 n_2,
 AV.int IntKind.i64 n_3, AV.int IntKind.i64 n_4,
 AV.str s_3, AV.str s_4, AV.int IntKind.i64 n_5,
 AV.sl 3 es_1 Own.no]).all.length,
 (29 : Nat)),
 ((keptSend
 [AV.str w.a.nm, AV.int IntKind.i64 w.a.nx,
 AV.sl 8 (fcsL w.a.l) Own.no, AV.str s,
 AV.int IntKind.i64 n,
 AV.sl 8 es Own.no,
 AV.sl 11 (pksL w.c) Own.no,
 AV.sl 3 (bxsL w.r) Own.no,
 AV.sl 8
 (fcsL w.all ++
 [AV.agg
 [AV.str s_2, AV.int IntKind.i64 n_2,
 AV.int IntKind.i64 n_3,
 AV.int IntKind.i64 n_4, AV.str s_3,
 AV.str s_4, AV.int IntKind.i64 n_5,
 AV.sl 3 es_1 Own.no]])
 (Own.tok 0),
 AV.sl 8 (fcsL w.fresh)
 (Own.tok 1),
 AV.bool true]
 [AV.str s_1, AV.bool b, AV.int IntKind.i64 n_1,
 AV.str s_2, AV.int IntKind.i64 n_2,
 AV.int IntKind.i64 n_3, AV.int IntKind.i64 n_4,
 AV.str s_3, AV.str s_4, AV.int IntKind.i64 n_5,
 AV.sl 3 es_1 Own.no]).fresh.length,
 (29 : Nat))]
 (AV.agg
 (wC r),
 [(r.all.length, (29 : Nat)),
 (r.fresh.length, (29 : Nat))])) ∧
 ((n_6 != (0 : Int)) = false →
 ((0 : Int) ≤ (1 : Int) ∧ (1 : Int) < (2 : Int)) ∧
 ((8 : Nat) = (8 : Nat) ∨ fcsL w.all = []) ∧
 ((fcsL w.all).length + (1 : Nat)) * (105 : Nat) ≤ (70368744177664 : Nat) ∧
 w.all.length = (fcsL w.all).length ∧
 (WAsk
 [AV.str w.a.nm, AV.int IntKind.i64 w.a.nx, AV.sl 8 (fcsL w.a.l) Own.no,
 AV.str s, AV.int IntKind.i64 n, AV.sl 8 es Own.no,
 AV.sl 11 (pksL w.c) Own.no, AV.sl 3 (bxsL w.r) Own.no,
 AV.sl 8
 (fcsL w.all ++
 [AV.agg
 [AV.str s_2, AV.int IntKind.i64 n_2, AV.int IntKind.i64 n_3,
 AV.int IntKind.i64 n_4, AV.str s_3, AV.str s_4,
 AV.int IntKind.i64 n_5, AV.sl 3 es_1 Own.no]])
 (Own.tok 0),
 AV.sl 8 (fcsL w.fresh) (Own.tok 1), AV.bool false]
 ((fcsL w.all).length + (1 : Nat)) w.fresh.length ∧
 PAsk
 [AV.str s_1, AV.bool b, AV.int IntKind.i64 n_1, AV.str s_2,
 AV.int IntKind.i64 n_2, AV.int IntKind.i64 n_3, AV.int IntKind.i64 n_4,
 AV.str s_3, AV.str s_4, AV.int IntKind.i64 n_5,
 AV.sl 3 es_1 Own.no]) ∧
 ∃ (s_5 : List UInt8),
 ∃ (n_7 : Int),
 ∃ (es_2 : List AV),
 ∃ (s_6 : List UInt8),
 ∃ (n_8 : Int),
 ∃ (es_3 : List AV),
 ∃ (es_4 : List AV),
 ∃ (es_5 : List AV),
 ∃ (es_6 : List AV),
 ∃ (es_7 : List AV),
 ∃ (b_1 : Bool),
 OutIs
 (keptWA
 (keptSend
 [AV.str w.a.nm, AV.int IntKind.i64 w.a.nx,
 AV.sl 8 (fcsL w.a.l) Own.no, AV.str s,
 AV.int IntKind.i64 n, AV.sl 8 es Own.no,
 AV.sl 11 (pksL w.c) Own.no,
 AV.sl 3 (bxsL w.r) Own.no,
 AV.sl 8
 (fcsL w.all ++
 [AV.agg
 [AV.str s_2, AV.int IntKind.i64 n_2,
 AV.int IntKind.i64 n_3,
 AV.int IntKind.i64 n_4, AV.str s_3,
 AV.str s_4, AV.int IntKind.i64 n_5,
 AV.sl 3 es_1 Own.no]])
 (Own.tok 0),
 AV.sl 8 (fcsL w.fresh)
 (Own.tok 1),
 AV.bool false]
 [AV.str s_1, AV.bool b, AV.int IntKind.i64 n_1,
 AV.str s_2, AV.int IntKind.i64 n_2,
 AV.int IntKind.i64 n_3, AV.int IntKind.i64 n_4,
 AV.str s_3, AV.str s_4, AV.int IntKind.i64 n_5,
 AV.sl 3 es_1 Own.no]))
 (AV.agg
 [AV.str s_5, AV.int IntKind.i64 n_7,
 AV.sl 8 es_2 Own.no, AV.str s_6,
 AV.int IntKind.i64 n_8, AV.sl 8 es_3 Own.no,
 AV.sl 11 es_4 Own.no,
 AV.sl 3 es_5 Own.no,
 AV.sl 8 es_6 (Own.tok 0),
 AV.sl 8 es_7 (Own.tok 1),
 AV.bool b_1]) ∧
 RetK
 (AV.agg
 [AV.str s_5, AV.int IntKind.i64 n_7,
 AV.sl 8 es_2 Own.no, AV.str s_6,
 AV.int IntKind.i64 n_8, AV.sl 8 es_3 Own.no,
 AV.sl 11 es_4 Own.no,
 AV.sl 3 es_5 Own.no,
 AV.sl 8 es_6 (Own.tok 0),
 AV.sl 8 es_7 (Own.tok 1),
 AV.bool b_1])
 [((keptSend
 [AV.str w.a.nm, AV.int IntKind.i64 w.a.nx,
 AV.sl 8 (fcsL w.a.l) Own.no, AV.str s,
 AV.int IntKind.i64 n,
 AV.sl 8 es Own.no,
 AV.sl 11 (pksL w.c) Own.no,
 AV.sl 3 (bxsL w.r) Own.no,
 AV.sl 8
 (fcsL w.all ++
 [AV.agg
 [AV.str s_2, AV.int IntKind.i64 n_2,
 AV.int IntKind.i64 n_3,
 AV.int IntKind.i64 n_4, AV.str s_3,
 AV.str s_4, AV.int IntKind.i64 n_5,
 AV.sl 3 es_1 Own.no]])
 (Own.tok 0),
 AV.sl 8 (fcsL w.fresh)
 (Own.tok 1),
 AV.bool false]
 [AV.str s_1, AV.bool b, AV.int IntKind.i64 n_1,
 AV.str s_2, AV.int IntKind.i64 n_2,
 AV.int IntKind.i64 n_3, AV.int IntKind.i64 n_4,
 AV.str s_3, AV.str s_4, AV.int IntKind.i64 n_5,
 AV.sl 3 es_1 Own.no]).all.length,
 (29 : Nat)),
 ((keptSend
 [AV.str w.a.nm, AV.int IntKind.i64 w.a.nx,
 AV.sl 8 (fcsL w.a.l) Own.no, AV.str s,
 AV.int IntKind.i64 n,
 AV.sl 8 es Own.no,
 AV.sl 11 (pksL w.c) Own.no,
 AV.sl 3 (bxsL w.r) Own.no,
 AV.sl 8
 (fcsL w.all ++
 [AV.agg
 [AV.str s_2, AV.int IntKind.i64 n_2,
 AV.int IntKind.i64 n_3,
 AV.int IntKind.i64 n_4, AV.str s_3,
 AV.str s_4, AV.int IntKind.i64 n_5,
 AV.sl 3 es_1 Own.no]])
 (Own.tok 0),
 AV.sl 8 (fcsL w.fresh)
 (Own.tok 1),
 AV.bool false]
 [AV.str s_1, AV.bool b, AV.int IntKind.i64 n_1,
 AV.str s_2, AV.int IntKind.i64 n_2,
 AV.int IntKind.i64 n_3, AV.int IntKind.i64 n_4,
 AV.str s_3, AV.str s_4, AV.int IntKind.i64 n_5,
 AV.sl 3 es_1 Own.no]).fresh.length,
 (29 : Nat))]
 (AV.agg
 (wC r),
 [(r.all.length, (29 : Nat)),
 (r.fresh.length, (29 : Nat))]))))) ∧
 (true = false →
 (false = true → False) ∧
 (false = false →
 (false = true → False) ∧
 (false = false →
 (false = true → False) ∧
 (false = false →
 (false = true → ((0 : Int) ≤ (1 : Int) ∧ (1 : Int) < (2 : Int)) ∧ False) ∧
 (false = false →
 RetK
 (AV.agg
 (wCg w))
 [(w.all.length, (29 : Nat)), (w.fresh.length, (29 : Nat))]
 (AV.agg
 (wC r),
 [(r.all.length, (29 : Nat)), (r.fresh.length, (29 : Nat))])))))))) := by kernel_rfl
theorem ww24d (m : Int) (w : WoI) (s n : Int) (r : WoI) : (lkW PI (GI m) (XAct 44) (tbl [(44, v44)]) (itbl [(23, v23.up)]) (av24n w 1 s n) [] 24 [.agg (wCg w), .agg [.int .i64 1, .int .i64 s, .int .i64 n]] (wL w) (wA r, wL r)) =
(((decide ((↑(pksL w.c).length : Int) > (0 : Int)) = true →
      (↑(pksL w.c).length : Int) ≠ (0 : Int) ∧
        (↑(pksL w.c).length : Int) ≠ (0 : Int) ∧
 ∃ (_y : Unit),
 ValsAre
 [AV.ptr 0 0, AV.ptr 1 0, AV.ptr 2 0,
 AV.int IntKind.i64 ((IntKind.i64.wrap (n.tmod (↑(pksL w.c).length : Int) + (↑(pksL w.c).length : Int))).tmod (↑(pksL w.c).length : Int)),
 AV.int IntKind.i64 (↑(pksL w.c).length : Int)]
 [AV.ptr 0 0, AV.ptr 1 0, AV.ptr 2 0, AV.int IntKind.i64 (nIdx w.c n),
 AV.int IntKind.i64 (↑w.c.length : Int)] ∧
 StIs
 { boxes := [some (wCg w), some [AV.int IntKind.i64 1, AV.int IntKind.i64 s, AV.int IntKind.i64 n], some [AV.str [], AV.int IntKind.i64 0, AV.sl 0 [] Own.nil, AV.str [], AV.int IntKind.i64 0, AV.sl 0 [] Own.nil, AV.sl 0 [] Own.nil, AV.sl 0 [] Own.nil, AV.sl 0 [] Own.nil, AV.sl 0 [] Own.nil, AV.bool false]], live := [(w.all.length, (29 : Nat)), (w.fresh.length, (29 : Nat))] }
 { boxes := [some (wCg w), some [AV.int IntKind.i64 1, AV.int IntKind.i64 s, AV.int IntKind.i64 n], some [AV.str [], AV.int IntKind.i64 0, AV.sl 0 [] Own.nil, AV.str [], AV.int IntKind.i64 0, AV.sl 0 [] Own.nil, AV.sl 0 [] Own.nil, AV.sl 0 [] Own.nil, AV.sl 0 [] Own.nil, AV.sl 0 [] Own.nil, AV.bool false]], live := [(w.all.length, (29 : Nat)), (w.fresh.length, (29 : Nat))] } ∧
 True ∧ True) ∧
    (decide ((↑(pksL w.c).length : Int) > (0 : Int)) = false →
      ∃ (_y : Unit),
        ValsAre
 [AV.ptr 0 0, AV.ptr 1 0, AV.ptr 2 0, AV.int IntKind.i64 (-1 : Int),
 AV.int IntKind.i64 (↑(pksL w.c).length : Int)]
 [AV.ptr 0 0, AV.ptr 1 0, AV.ptr 2 0, AV.int IntKind.i64 (nIdx w.c n),
 AV.int IntKind.i64 (↑w.c.length : Int)] ∧
 StIs
 { boxes := [some (wCg w), some [AV.int IntKind.i64 1, AV.int IntKind.i64 s, AV.int IntKind.i64 n], some [AV.str [], AV.int IntKind.i64 0, AV.sl 0 [] Own.nil, AV.str [], AV.int IntKind.i64 0, AV.sl 0 [] Own.nil, AV.sl 0 [] Own.nil, AV.sl 0 [] Own.nil, AV.sl 0 [] Own.nil, AV.sl 0 [] Own.nil, AV.bool false]], live := [(w.all.length, (29 : Nat)), (w.fresh.length, (29 : Nat))] }
 { boxes := [some (wCg w), some [AV.int IntKind.i64 1, AV.int IntKind.i64 s, AV.int IntKind.i64 n], some [AV.str [], AV.int IntKind.i64 0, AV.sl 0 [] Own.nil, AV.str [], AV.int IntKind.i64 0, AV.sl 0 [] Own.nil, AV.sl 0 [] Own.nil, AV.sl 0 [] Own.nil, AV.sl 0 [] Own.nil, AV.sl 0 [] Own.nil, AV.bool false]], live := [(w.all.length, (29 : Nat)), (w.fresh.length, (29 : Nat))] } ∧
 True ∧ True)) ∧
  ∀ (_x : Unit),
    True →
      True →
        (false = true → False) ∧
 (false = false →
 (true = true →
 ∃ (es : List AV),
 ∃ (s : List UInt8),
 ∃ (b : Bool),
 ∃ (n_1 : Int),
 ∃ (s_1 : List UInt8),
 ∃ (n_2 : Int),
 ∃ (n_3 : Int),
 ∃ (n_4 : Int),
 ∃ (s_2 : List UInt8),
 ∃ (s_3 : List UInt8),
 ∃ (n_5 : Int),
 ∃ (es_1 : List AV),
 ∃ (n_6 : Int),
 CallIs
 (tbl [((44 : Nat), v44)] 44
 [AV.agg [AV.sl 11 (pksL w.c) Own.no], AV.int IntKind.i64 (nIdx w.c n)])
 (AV.tup
 [AV.agg [AV.sl 11 es Own.no],
 AV.agg
 [AV.str s, AV.bool b, AV.int IntKind.i64 n_1, AV.str s_1, AV.int IntKind.i64 n_2, AV.int IntKind.i64 n_3,
 AV.int IntKind.i64 n_4, AV.str s_2, AV.str s_3, AV.int IntKind.i64 n_5, AV.sl 3 es_1 Own.no],
 AV.int IntKind.i64 n_6])
 [] ∧
 ((n_6 == (0 : Int)) = true →
 (RAsk
 [AV.str w.a.nm, AV.int IntKind.i64 w.a.nx, AV.sl 8 (fcsL w.a.l) Own.no, AV.str w.b.nm,
 AV.int IntKind.i64 w.b.nx, AV.sl 8 (fcsL w.b.l) Own.no, AV.sl 11 es Own.no,
 AV.sl 3 (bxsL w.r) Own.no, AV.sl 8 (fcsL w.all) (Own.tok 0),
 AV.sl 8 (fcsL w.fresh) (Own.tok 1), AV.bool false]
 w.all.length w.fresh.length ∧
 PAsk
 [AV.str s, AV.bool b, AV.int IntKind.i64 n_1, AV.str s_1, AV.int IntKind.i64 n_2, AV.int IntKind.i64 n_3,
 AV.int IntKind.i64 n_4, AV.str s_2, AV.str s_3, AV.int IntKind.i64 n_5,
 AV.sl 3 es_1 Own.no]) ∧
 ∃ (s_4 : List UInt8),
 ∃ (n : Int),
 ∃ (es_2 : List AV),
 ∃ (s_5 : List UInt8),
 ∃ (n_7 : Int),
 ∃ (es_3 : List AV),
 ∃ (es_4 : List AV),
 ∃ (es_5 : List AV),
 ∃ (es_6 : List AV),
 ∃ (es_7 : List AV),
 ∃ (b_1 : Bool),
 OutIs
 (keptWA
 (keptRecv
 [AV.str w.a.nm, AV.int IntKind.i64 w.a.nx,
 AV.sl 8 (fcsL w.a.l) Own.no, AV.str w.b.nm,
 AV.int IntKind.i64 w.b.nx, AV.sl 8 (fcsL w.b.l) Own.no,
 AV.sl 11 es Own.no, AV.sl 3 (bxsL w.r) Own.no,
 AV.sl 8 (fcsL w.all) (Own.tok 0),
 AV.sl 8 (fcsL w.fresh) (Own.tok 1), AV.bool false]
 [AV.str s, AV.bool b, AV.int IntKind.i64 n_1, AV.str s_1,
 AV.int IntKind.i64 n_2, AV.int IntKind.i64 n_3, AV.int IntKind.i64 n_4,
 AV.str s_2, AV.str s_3, AV.int IntKind.i64 n_5,
 AV.sl 3 es_1 Own.no]))
 (AV.agg
 [AV.str s_4, AV.int IntKind.i64 n, AV.sl 8 es_2 Own.no, AV.str s_5,
 AV.int IntKind.i64 n_7, AV.sl 8 es_3 Own.no,
 AV.sl 11 es_4 Own.no, AV.sl 3 es_5 Own.no,
 AV.sl 8 es_6 (Own.tok 0),
 AV.sl 8 es_7 (Own.tok 1), AV.bool b_1]) ∧
 RetK
 (AV.agg
 [AV.str s_4, AV.int IntKind.i64 n, AV.sl 8 es_2 Own.no, AV.str s_5,
 AV.int IntKind.i64 n_7, AV.sl 8 es_3 Own.no,
 AV.sl 11 es_4 Own.no, AV.sl 3 es_5 Own.no,
 AV.sl 8 es_6 (Own.tok 0),
 AV.sl 8 es_7 (Own.tok 1), AV.bool b_1])
 [((keptRecv
 [AV.str w.a.nm, AV.int IntKind.i64 w.a.nx,
 AV.sl 8 (fcsL w.a.l) Own.no, AV.str w.b.nm,
 AV.int IntKind.i64 w.b.nx, AV.sl 8 (fcsL w.b.l) Own.no,
 AV.sl 11 es Own.no, AV.sl 3 (bxsL w.r) Own.no,
 AV.sl 8 (fcsL w.all) (Own.tok 0),
 AV.sl 8 (fcsL w.fresh) (Own.tok 1), AV.bool false]
 [AV.str s, AV.bool b, AV.int IntKind.i64 n_1, AV.str s_1,
 AV.int IntKind.i64 n_2, AV.int IntKind.i64 n_3, AV.int IntKind.i64 n_4,
 AV.str s_2, AV.str s_3, AV.int IntKind.i64 n_5,
 AV.sl 3 es_1 Own.no]).all.length,
 (29 : Nat)),
 ((keptRecv
 [AV.str w.a.nm, AV.int IntKind.i64 w.a.nx,
 AV.sl 8 (fcsL w.a.l) Own.no, AV.str w.b.nm,
 AV.int IntKind.i64 w.b.nx, AV.sl 8 (fcsL w.b.l) Own.no,
 AV.sl 11 es Own.no, AV.sl 3 (bxsL w.r) Own.no,
 AV.sl 8 (fcsL w.all) (Own.tok 0),
 AV.sl 8 (fcsL w.fresh) (Own.tok 1), AV.bool false]
 [AV.str s, AV.bool b, AV.int IntKind.i64 n_1, AV.str s_1,
 AV.int IntKind.i64 n_2, AV.int IntKind.i64 n_3, AV.int IntKind.i64 n_4,
 AV.str s_2, AV.str s_3, AV.int IntKind.i64 n_5,
 AV.sl 3 es_1 Own.no]).fresh.length,
 (29 : Nat))]
 (AV.agg
 (wC r),
 [(r.all.length, (29 : Nat)), (r.fresh.length, (29 : Nat))])) ∧
 ((n_6 == (0 : Int)) = false →
 RetK
 (AV.agg
 (wCg w))
 [(w.all.length, (29 : Nat)), (w.fresh.length, (29 : Nat))]
 (AV.agg
 (wC r),
 [(r.all.length, (29 : Nat)), (r.fresh.length, (29 : Nat))]))) ∧
 (true = false →
 (false = true → False) ∧
 (false = false →
 (false = true → False) ∧
 (false = false →
 (false = true → False) ∧
 (false = false →
 RetK
 (AV.agg
 (wCg w))
 [(w.all.length, (29 : Nat)), (w.fresh.length, (29 : Nat))]
 (AV.agg
 (wC r),
 [(r.all.length, (29 : Nat)), (r.fresh.length, (29 : Nat))]))))))) := by kernel_rfl
theorem ww24l (m : Int) (w : WoI) (s n : Int) (r : WoI) : (lkW PI (GI m) (XAct 45) (tbl [(45, v45)]) (itbl []) (av24n w 2 s n) [] 24 [.agg (wCg w), .agg [.int .i64 2, .int .i64 s, .int .i64 n]] (wL w) (wA r, wL r)) =
(((decide ((↑(pksL w.c).length : Int) > (0 : Int)) = true →
      (↑(pksL w.c).length : Int) ≠ (0 : Int) ∧
        (↑(pksL w.c).length : Int) ≠ (0 : Int) ∧
 ∃ (_y : Unit),
 ValsAre
 [AV.ptr 0 0, AV.ptr 1 0, AV.ptr 2 0,
 AV.int IntKind.i64 ((IntKind.i64.wrap (n.tmod (↑(pksL w.c).length : Int) + (↑(pksL w.c).length : Int))).tmod (↑(pksL w.c).length : Int)),
 AV.int IntKind.i64 (↑(pksL w.c).length : Int)]
 [AV.ptr 0 0, AV.ptr 1 0, AV.ptr 2 0, AV.int IntKind.i64 (nIdx w.c n),
 AV.int IntKind.i64 (↑w.c.length : Int)] ∧
 StIs
 { boxes := [some (wCg w), some [AV.int IntKind.i64 2, AV.int IntKind.i64 s, AV.int IntKind.i64 n], some [AV.str [], AV.int IntKind.i64 0, AV.sl 0 [] Own.nil, AV.str [], AV.int IntKind.i64 0, AV.sl 0 [] Own.nil, AV.sl 0 [] Own.nil, AV.sl 0 [] Own.nil, AV.sl 0 [] Own.nil, AV.sl 0 [] Own.nil, AV.bool false]], live := [(w.all.length, (29 : Nat)), (w.fresh.length, (29 : Nat))] }
 { boxes := [some (wCg w), some [AV.int IntKind.i64 2, AV.int IntKind.i64 s, AV.int IntKind.i64 n], some [AV.str [], AV.int IntKind.i64 0, AV.sl 0 [] Own.nil, AV.str [], AV.int IntKind.i64 0, AV.sl 0 [] Own.nil, AV.sl 0 [] Own.nil, AV.sl 0 [] Own.nil, AV.sl 0 [] Own.nil, AV.sl 0 [] Own.nil, AV.bool false]], live := [(w.all.length, (29 : Nat)), (w.fresh.length, (29 : Nat))] } ∧
 True ∧ True) ∧
    (decide ((↑(pksL w.c).length : Int) > (0 : Int)) = false →
      ∃ (_y : Unit),
        ValsAre
 [AV.ptr 0 0, AV.ptr 1 0, AV.ptr 2 0, AV.int IntKind.i64 (-1 : Int),
 AV.int IntKind.i64 (↑(pksL w.c).length : Int)]
 [AV.ptr 0 0, AV.ptr 1 0, AV.ptr 2 0, AV.int IntKind.i64 (nIdx w.c n),
 AV.int IntKind.i64 (↑w.c.length : Int)] ∧
 StIs
 { boxes := [some (wCg w), some [AV.int IntKind.i64 2, AV.int IntKind.i64 s, AV.int IntKind.i64 n], some [AV.str [], AV.int IntKind.i64 0, AV.sl 0 [] Own.nil, AV.str [], AV.int IntKind.i64 0, AV.sl 0 [] Own.nil, AV.sl 0 [] Own.nil, AV.sl 0 [] Own.nil, AV.sl 0 [] Own.nil, AV.sl 0 [] Own.nil, AV.bool false]], live := [(w.all.length, (29 : Nat)), (w.fresh.length, (29 : Nat))] }
 { boxes := [some (wCg w), some [AV.int IntKind.i64 2, AV.int IntKind.i64 s, AV.int IntKind.i64 n], some [AV.str [], AV.int IntKind.i64 0, AV.sl 0 [] Own.nil, AV.str [], AV.int IntKind.i64 0, AV.sl 0 [] Own.nil, AV.sl 0 [] Own.nil, AV.sl 0 [] Own.nil, AV.sl 0 [] Own.nil, AV.sl 0 [] Own.nil, AV.bool false]], live := [(w.all.length, (29 : Nat)), (w.fresh.length, (29 : Nat))] } ∧
 True ∧ True)) ∧
  ∀ (_x : Unit),
    True →
      True →
        (false = true → False) ∧
 (false = false →
 (false = true → False) ∧
 (false = false →
 (true = true →
 ∃ (es : List AV),
 ∃ (n_1 : Int),
 CallIs (tbl [((45 : Nat), v45)] 45 [AV.agg [AV.sl 11 (pksL w.c) Own.no], AV.int IntKind.i64 (nIdx w.c n)])
 (AV.tup [AV.agg [AV.sl 11 es Own.no], AV.int IntKind.i64 n_1]) [] ∧
 ((n_1 == (0 : Int)) = true →
 RetK
 (AV.agg
 [AV.str w.a.nm, AV.int IntKind.i64 w.a.nx, AV.sl 8 (fcsL w.a.l) Own.no, AV.str w.b.nm, AV.int IntKind.i64 w.b.nx,
 AV.sl 8 (fcsL w.b.l) Own.no, AV.sl 11 es Own.no, AV.sl 3 (bxsL w.r) Own.no,
 AV.sl 8 (fcsL w.all) (Own.tok 0), AV.sl 8 (fcsL w.fresh) (Own.tok 1),
 AV.bool false])
 [(w.all.length, (29 : Nat)), (w.fresh.length, (29 : Nat))]
 (AV.agg
 (wC r),
 [(r.all.length, (29 : Nat)), (r.fresh.length, (29 : Nat))])) ∧
 ((n_1 == (0 : Int)) = false →
 RetK
 (AV.agg
 (wCg w))
 [(w.all.length, (29 : Nat)), (w.fresh.length, (29 : Nat))]
 (AV.agg
 (wC r),
 [(r.all.length, (29 : Nat)), (r.fresh.length, (29 : Nat))]))) ∧
 (true = false →
 (false = true → False) ∧
 (false = false →
 (false = true → False) ∧
 (false = false →
 RetK
 (AV.agg
 (wCg w))
 [(w.all.length, (29 : Nat)), (w.fresh.length, (29 : Nat))]
 (AV.agg
 (wC r),
 [(r.all.length, (29 : Nat)), (r.fresh.length, (29 : Nat))]))))))) := by kernel_rfl
theorem ww24c (m : Int) (w : WoI) (s n : Int) (r : WoI) : (lkW PI (GI m) (XAct 46) (tbl [(46, v46)]) (itbl []) (av24n w 3 s n) [] 24 [.agg (wCg w), .agg [.int .i64 3, .int .i64 s, .int .i64 n]] (wL w) (wA r, wL r)) =
(((decide ((↑(pksL w.c).length : Int) > (0 : Int)) = true →
      (↑(pksL w.c).length : Int) ≠ (0 : Int) ∧
        (↑(pksL w.c).length : Int) ≠ (0 : Int) ∧
 ∃ (_y : Unit),
 ValsAre
 [AV.ptr 0 0, AV.ptr 1 0, AV.ptr 2 0,
 AV.int IntKind.i64 ((IntKind.i64.wrap (n.tmod (↑(pksL w.c).length : Int) + (↑(pksL w.c).length : Int))).tmod (↑(pksL w.c).length : Int)),
 AV.int IntKind.i64 (↑(pksL w.c).length : Int)]
 [AV.ptr 0 0, AV.ptr 1 0, AV.ptr 2 0, AV.int IntKind.i64 (nIdx w.c n),
 AV.int IntKind.i64 (↑w.c.length : Int)] ∧
 StIs
 { boxes := [some (wCg w), some [AV.int IntKind.i64 3, AV.int IntKind.i64 s, AV.int IntKind.i64 n], some [AV.str [], AV.int IntKind.i64 0, AV.sl 0 [] Own.nil, AV.str [], AV.int IntKind.i64 0, AV.sl 0 [] Own.nil, AV.sl 0 [] Own.nil, AV.sl 0 [] Own.nil, AV.sl 0 [] Own.nil, AV.sl 0 [] Own.nil, AV.bool false]], live := [(w.all.length, (29 : Nat)), (w.fresh.length, (29 : Nat))] }
 { boxes := [some (wCg w), some [AV.int IntKind.i64 3, AV.int IntKind.i64 s, AV.int IntKind.i64 n], some [AV.str [], AV.int IntKind.i64 0, AV.sl 0 [] Own.nil, AV.str [], AV.int IntKind.i64 0, AV.sl 0 [] Own.nil, AV.sl 0 [] Own.nil, AV.sl 0 [] Own.nil, AV.sl 0 [] Own.nil, AV.sl 0 [] Own.nil, AV.bool false]], live := [(w.all.length, (29 : Nat)), (w.fresh.length, (29 : Nat))] } ∧
 True ∧ True) ∧
    (decide ((↑(pksL w.c).length : Int) > (0 : Int)) = false →
      ∃ (_y : Unit),
        ValsAre
 [AV.ptr 0 0, AV.ptr 1 0, AV.ptr 2 0, AV.int IntKind.i64 (-1 : Int),
 AV.int IntKind.i64 (↑(pksL w.c).length : Int)]
 [AV.ptr 0 0, AV.ptr 1 0, AV.ptr 2 0, AV.int IntKind.i64 (nIdx w.c n),
 AV.int IntKind.i64 (↑w.c.length : Int)] ∧
 StIs
 { boxes := [some (wCg w), some [AV.int IntKind.i64 3, AV.int IntKind.i64 s, AV.int IntKind.i64 n], some [AV.str [], AV.int IntKind.i64 0, AV.sl 0 [] Own.nil, AV.str [], AV.int IntKind.i64 0, AV.sl 0 [] Own.nil, AV.sl 0 [] Own.nil, AV.sl 0 [] Own.nil, AV.sl 0 [] Own.nil, AV.sl 0 [] Own.nil, AV.bool false]], live := [(w.all.length, (29 : Nat)), (w.fresh.length, (29 : Nat))] }
 { boxes := [some (wCg w), some [AV.int IntKind.i64 3, AV.int IntKind.i64 s, AV.int IntKind.i64 n], some [AV.str [], AV.int IntKind.i64 0, AV.sl 0 [] Own.nil, AV.str [], AV.int IntKind.i64 0, AV.sl 0 [] Own.nil, AV.sl 0 [] Own.nil, AV.sl 0 [] Own.nil, AV.sl 0 [] Own.nil, AV.sl 0 [] Own.nil, AV.bool false]], live := [(w.all.length, (29 : Nat)), (w.fresh.length, (29 : Nat))] } ∧
 True ∧ True)) ∧
  ∀ (_x : Unit),
    True →
      True →
        (false = true → False) ∧
 (false = false →
 (false = true → False) ∧
 (false = false →
 (false = true → False) ∧
 (false = false →
 (true = true →
 ∃ (es : List AV),
 ∃ (n_1 : Int),
 CallIs (tbl [((46 : Nat), v46)] 46 [AV.agg [AV.sl 11 (pksL w.c) Own.no], AV.int IntKind.i64 (nIdx w.c n)])
 (AV.tup [AV.agg [AV.sl 11 es Own.no], AV.int IntKind.i64 n_1]) [] ∧
 ((n_1 == (0 : Int)) = true →
 RetK
 (AV.agg
 [AV.str w.a.nm, AV.int IntKind.i64 w.a.nx, AV.sl 8 (fcsL w.a.l) Own.no, AV.str w.b.nm,
 AV.int IntKind.i64 w.b.nx, AV.sl 8 (fcsL w.b.l) Own.no, AV.sl 11 es Own.no,
 AV.sl 3 (bxsL w.r) Own.no, AV.sl 8 (fcsL w.all) (Own.tok 0),
 AV.sl 8 (fcsL w.fresh) (Own.tok 1), AV.bool false])
 [(w.all.length, (29 : Nat)), (w.fresh.length, (29 : Nat))]
 (AV.agg
 (wC r),
 [(r.all.length, (29 : Nat)), (r.fresh.length, (29 : Nat))])) ∧
 ((n_1 == (0 : Int)) = false →
 RetK
 (AV.agg
 (wCg w))
 [(w.all.length, (29 : Nat)), (w.fresh.length, (29 : Nat))]
 (AV.agg
 (wC r),
 [(r.all.length, (29 : Nat)), (r.fresh.length, (29 : Nat))]))) ∧
 (true = false →
 (false = true → False) ∧
 (false = false →
 RetK
 (AV.agg
 (wCg w))
 [(w.all.length, (29 : Nat)), (w.fresh.length, (29 : Nat))]
 (AV.agg
 (wC r),
 [(r.all.length, (29 : Nat)), (r.fresh.length, (29 : Nat))]))))))) := by kernel_rfl
theorem ww24a (m : Int) (w : WoI) (s n : Int) (r : WoI) : (lkW PI (GI m) (XAct 16) (tbl [(16, s22)]) (itbl [(43, v43.up), (1000043, fun _ _ => some (False, .junk, ⟨[], []⟩))]) (av24 w 4 s n) [] 24 [.agg (wCg w), .agg [.int .i64 4, .int .i64 s, .int .i64 n]] (wL w) (wA r, wL r)) =
(((decide ((↑(pksL w.c).length : Int) > (0 : Int)) = true →
      (↑(pksL w.c).length : Int) ≠ (0 : Int) ∧
        (↑(pksL w.c).length : Int) ≠ (0 : Int) ∧
 ∃ (_y : Unit),
 ValsAre
 [AV.ptr 0 0, AV.ptr 1 0, AV.ptr 2 0,
 AV.int IntKind.i64 (IntKind.i64.wrap (↑(BitVec.ofInt IntKind.i64.bits s &&& BitVec.ofInt IntKind.i64.bits (1 : Int)).toNat : Int)),
 AV.int IntKind.i64 ((IntKind.i64.wrap (n.tmod (↑(pksL w.c).length : Int) + (↑(pksL w.c).length : Int))).tmod (↑(pksL w.c).length : Int)),
 AV.int IntKind.i64 (↑(pksL w.c).length : Int)]
 [AV.ptr 0 0, AV.ptr 1 0, AV.ptr 2 0, AV.int IntKind.i64 (parI s),
 AV.int IntKind.i64 (nIdx w.c n), AV.int IntKind.i64 (↑w.c.length : Int)] ∧
 StIs
 { boxes := [some (wCg w), some [AV.int IntKind.i64 4, AV.int IntKind.i64 s, AV.int IntKind.i64 n], some [AV.str [], AV.int IntKind.i64 0, AV.sl 0 [] Own.nil, AV.str [], AV.int IntKind.i64 0, AV.sl 0 [] Own.nil, AV.sl 0 [] Own.nil, AV.sl 0 [] Own.nil, AV.sl 0 [] Own.nil, AV.sl 0 [] Own.nil, AV.bool false]], live := [(w.all.length, (29 : Nat)), (w.fresh.length, (29 : Nat))] }
 { boxes := [some (wCg w), some [AV.int IntKind.i64 4, AV.int IntKind.i64 s, AV.int IntKind.i64 n], some [AV.str [], AV.int IntKind.i64 0, AV.sl 0 [] Own.nil, AV.str [], AV.int IntKind.i64 0, AV.sl 0 [] Own.nil, AV.sl 0 [] Own.nil, AV.sl 0 [] Own.nil, AV.sl 0 [] Own.nil, AV.sl 0 [] Own.nil, AV.bool false]], live := [(w.all.length, (29 : Nat)), (w.fresh.length, (29 : Nat))] } ∧
 True ∧ True) ∧
    (decide ((↑(pksL w.c).length : Int) > (0 : Int)) = false →
      ∃ (_y : Unit),
        ValsAre
 [AV.ptr 0 0, AV.ptr 1 0, AV.ptr 2 0,
 AV.int IntKind.i64 (IntKind.i64.wrap (↑(BitVec.ofInt IntKind.i64.bits s &&& BitVec.ofInt IntKind.i64.bits (1 : Int)).toNat : Int)),
 AV.int IntKind.i64 (-1 : Int), AV.int IntKind.i64 (↑(pksL w.c).length : Int)]
 [AV.ptr 0 0, AV.ptr 1 0, AV.ptr 2 0, AV.int IntKind.i64 (parI s),
 AV.int IntKind.i64 (nIdx w.c n), AV.int IntKind.i64 (↑w.c.length : Int)] ∧
 StIs
 { boxes := [some (wCg w), some [AV.int IntKind.i64 4, AV.int IntKind.i64 s, AV.int IntKind.i64 n], some [AV.str [], AV.int IntKind.i64 0, AV.sl 0 [] Own.nil, AV.str [], AV.int IntKind.i64 0, AV.sl 0 [] Own.nil, AV.sl 0 [] Own.nil, AV.sl 0 [] Own.nil, AV.sl 0 [] Own.nil, AV.sl 0 [] Own.nil, AV.bool false]], live := [(w.all.length, (29 : Nat)), (w.fresh.length, (29 : Nat))] }
 { boxes := [some (wCg w), some [AV.int IntKind.i64 4, AV.int IntKind.i64 s, AV.int IntKind.i64 n], some [AV.str [], AV.int IntKind.i64 0, AV.sl 0 [] Own.nil, AV.str [], AV.int IntKind.i64 0, AV.sl 0 [] Own.nil, AV.sl 0 [] Own.nil, AV.sl 0 [] Own.nil, AV.sl 0 [] Own.nil, AV.sl 0 [] Own.nil, AV.bool false]], live := [(w.all.length, (29 : Nat)), (w.fresh.length, (29 : Nat))] } ∧
 True ∧ True)) ∧
  ∀ (_x : Unit),
    True →
      True →
        (parI s = (0 : Int) ∨ parI s = (1 : Int)) ∧
 (parI s = (0 : Int) →
 (false = true → ((0 : Int) ≤ (0 : Int) ∧ (0 : Int) < (2 : Int)) ∧ False) ∧
 (false = false →
 (false = true → False) ∧
 (false = false →
 (false = true → False) ∧
 (false = false →
 (false = true → False) ∧
 (false = false →
 (true = true →
 ((0 : Int) ≤ (0 : Int) ∧ (0 : Int) < (2 : Int)) ∧
 ∃ (es : List AV),
 CallIs
 (tbl [((16 : Nat), s22)] 16
 [AV.agg [AV.str w.a.nm, AV.int IntKind.i64 w.a.nx, AV.sl 8 (fcsL w.a.l) Own.no]])
 (AV.sl 11 es Own.no) [] ∧
 (∃ (y : Nat),
 ValsAre
 [AV.ptr 0 0, AV.ptr 2 0, AV.sl 11 es Own.no,
 AV.int IntKind.i64 0]
 [AV.ptr 0 0, AV.ptr 2 0, AV.sl 11 (pksL (openP w s)) Own.no,
 AV.int IntKind.i64 (↑y : Int)] ∧
 StIs
 { boxes := [some (wCg w), some [AV.int IntKind.i64 4, AV.int IntKind.i64 s, AV.int IntKind.i64 n], some [AV.str [], AV.int IntKind.i64 0, AV.sl 0 [] Own.nil, AV.str [], AV.int IntKind.i64 0, AV.sl 0 [] Own.nil, AV.sl 0 [] Own.nil, AV.sl 0 [] Own.nil, AV.sl 0 [] Own.nil, AV.sl 0 [] Own.nil, AV.bool false]], live := [(w.all.length, (29 : Nat)), (w.fresh.length, (29 : Nat))] }
 { boxes := [some (wC (againL w s y)), some [AV.int IntKind.i64 4, AV.int IntKind.i64 s, AV.int IntKind.i64 n], some [AV.str [], AV.int IntKind.i64 0, AV.sl 0 [] Own.nil, AV.str [], AV.int IntKind.i64 0, AV.sl 0 [] Own.nil, AV.sl 0 [] Own.nil, AV.sl 0 [] Own.nil, AV.sl 0 [] Own.nil, AV.sl 0 [] Own.nil, AV.bool false]], live := [((againL w s y).all.length, (29 : Nat)), ((againL w s y).fresh.length, (29 : Nat))] } ∧
 y ≤ (openP w s).length ∧ True) ∧
 ∀ (x : Nat),
 x ≤ (openP w s).length →
 (decide ((↑x : Int) < (↑(pksL (openP w s)).length : Int)) = true →
 ((0 : Int) ≤ (↑x : Int) ∧ (↑x : Int) < (↑(pksL (openP w s)).length : Int)) ∧
 ∃ (s_1 : List UInt8),
 ∃ (b : Bool),
 ∃ (n_1 : Int),
 ∃ (s_2 : List UInt8),
 ∃ (n_2 : Int),
 ∃ (n_3 : Int),
 ∃ (n_4 : Int),
 ∃ (s_3 : List UInt8),
 ∃ (s_4 : List UInt8),
 ∃ (n_5 : Int),
 ∃ (es : List AV),
 takeAt PI 31 (pksL (openP w s)) (↑x : Int).toNat 0 =
 some
 (AV.agg
 [AV.str s_1, AV.bool b, AV.int IntKind.i64 n_1, AV.str s_2,
 AV.int IntKind.i64 n_2, AV.int IntKind.i64 n_3, AV.int IntKind.i64 n_4,
 AV.str s_3, AV.str s_4, AV.int IntKind.i64 n_5,
 AV.sl 3 es Own.no]) ∧
 (WAsk
 (wC (againL w s x))
 (againL w s x).all.length (againL w s x).fresh.length ∧
 PAsk
 [AV.str s_1, AV.bool b, AV.int IntKind.i64 n_1, AV.str s_2,
 AV.int IntKind.i64 n_2, AV.int IntKind.i64 n_3, AV.int IntKind.i64 n_4,
 AV.str s_3, AV.str s_4, AV.int IntKind.i64 n_5,
 AV.sl 3 es Own.no]) ∧
 ∃ (s_5 : List UInt8),
 ∃ (n_6 : Int),
 ∃ (es_1 : List AV),
 ∃ (s_6 : List UInt8),
 ∃ (n_7 : Int),
 ∃ (es_2 : List AV),
 ∃ (es_3 : List AV),
 ∃ (es_4 : List AV),
 ∃ (es_5 : List AV),
 ∃ (es_6 : List AV),
 ∃ (b_1 : Bool),
 OutIs
 (keptWA
 (keptSend
 (wC (againL w s x))
 [AV.str s_1, AV.bool b, AV.int IntKind.i64 n_1,
 AV.str s_2, AV.int IntKind.i64 n_2,
 AV.int IntKind.i64 n_3, AV.int IntKind.i64 n_4,
 AV.str s_3, AV.str s_4, AV.int IntKind.i64 n_5,
 AV.sl 3 es Own.no]))
 (AV.agg
 [AV.str s_5, AV.int IntKind.i64 n_6,
 AV.sl 8 es_1 Own.no, AV.str s_6,
 AV.int IntKind.i64 n_7,
 AV.sl 8 es_2 Own.no,
 AV.sl 11 es_3 Own.no,
 AV.sl 3 es_4 Own.no,
 AV.sl 8 es_5 (Own.tok 0),
 AV.sl 8 es_6 (Own.tok 1),
 AV.bool b_1]) ∧
 ∃ (y : Nat),
 ValsAre
 [AV.ptr 0 0,
 AV.ptr 2 0,
 AV.sl 11 (pksL (openP w s)) Own.no,
 AV.int IntKind.i64
 (IntKind.i64.wrap ((↑x : Int) + (1 : Int)))]
 [AV.ptr 0 0,
 AV.ptr 2 0,
 AV.sl 11 (pksL (openP w s)) Own.no,
 AV.int IntKind.i64 (↑y : Int)] ∧
 StIs
 { boxes := [some [AV.str s_5, AV.int IntKind.i64 n_6, AV.sl 8 es_1 Own.no, AV.str s_6, AV.int IntKind.i64 n_7, AV.sl 8 es_2 Own.no, AV.sl 11 es_3 Own.no, AV.sl 3 es_4 Own.no, AV.sl 8 es_5 (Own.tok 0), AV.sl 8 es_6 (Own.tok 1), AV.bool b_1], some [AV.int IntKind.i64 4, AV.int IntKind.i64 s, AV.int IntKind.i64 n], some [AV.str [], AV.int IntKind.i64 0, AV.sl 0 [] Own.nil, AV.str [], AV.int IntKind.i64 0, AV.sl 0 [] Own.nil, AV.sl 0 [] Own.nil, AV.sl 0 [] Own.nil, AV.sl 0 [] Own.nil, AV.sl 0 [] Own.nil, AV.bool false]], live := [((keptSend (wC (againL w s x)) [AV.str s_1, AV.bool b, AV.int IntKind.i64 n_1, AV.str s_2, AV.int IntKind.i64 n_2, AV.int IntKind.i64 n_3, AV.int IntKind.i64 n_4, AV.str s_3, AV.str s_4, AV.int IntKind.i64 n_5, AV.sl 3 es Own.no]).all.length, (29 : Nat)), ((keptSend (wC (againL w s x)) [AV.str s_1, AV.bool b, AV.int IntKind.i64 n_1, AV.str s_2, AV.int IntKind.i64 n_2, AV.int IntKind.i64 n_3, AV.int IntKind.i64 n_4, AV.str s_3, AV.str s_4, AV.int IntKind.i64 n_5, AV.sl 3 es Own.no]).fresh.length, (29 : Nat))] }
 { boxes := [some (wC (againL w s y)), some [AV.int IntKind.i64 4, AV.int IntKind.i64 s, AV.int IntKind.i64 n], some [AV.str [], AV.int IntKind.i64 0, AV.sl 0 [] Own.nil, AV.str [], AV.int IntKind.i64 0, AV.sl 0 [] Own.nil, AV.sl 0 [] Own.nil, AV.sl 0 [] Own.nil, AV.sl 0 [] Own.nil, AV.sl 0 [] Own.nil, AV.bool false]], live := [((againL w s y).all.length, (29 : Nat)), ((againL w s y).fresh.length, (29 : Nat))] } ∧
 y ≤ (openP w s).length ∧
 (openP w s).length - y < (openP w s).length - x) ∧
 (decide ((↑x : Int) < (↑(pksL (openP w s)).length : Int)) = false →
 RetK
 (AV.agg
 (wC (againL w s x)))
 [((againL w s x).all.length, (29 : Nat)), ((againL w s x).fresh.length, (29 : Nat))]
 (AV.agg
 (wC r),
 [(r.all.length, (29 : Nat)), (r.fresh.length, (29 : Nat))]))) ∧
 (true = false →
 RetK
 (AV.agg
 (wCg w))
 [(w.all.length, (29 : Nat)), (w.fresh.length, (29 : Nat))]
 (AV.agg
 (wC r),
 [(r.all.length, (29 : Nat)), (r.fresh.length, (29 : Nat))]))))))) ∧
 (parI s = (1 : Int) →
 (false = true → ((0 : Int) ≤ (1 : Int) ∧ (1 : Int) < (2 : Int)) ∧ False) ∧
 (false = false →
 (false = true → False) ∧
 (false = false →
 (false = true → False) ∧
 (false = false →
 (false = true → False) ∧
 (false = false →
 (true = true →
 ((0 : Int) ≤ (1 : Int) ∧ (1 : Int) < (2 : Int)) ∧
 ∃ (es : List AV),
 CallIs
 (tbl [((16 : Nat), s22)] 16
 [AV.agg [AV.str w.b.nm, AV.int IntKind.i64 w.b.nx, AV.sl 8 (fcsL w.b.l) Own.no]])
 (AV.sl 11 es Own.no) [] ∧
 (∃ (y : Nat),
 ValsAre
 [AV.ptr 0 0, AV.ptr 2 0, AV.sl 11 es Own.no,
 AV.int IntKind.i64 0]
 [AV.ptr 0 0, AV.ptr 2 0, AV.sl 11 (pksL (openP w s)) Own.no,
 AV.int IntKind.i64 (↑y : Int)] ∧
 StIs
 { boxes := [some (wCg w), some [AV.int IntKind.i64 4, AV.int IntKind.i64 s, AV.int IntKind.i64 n], some [AV.str [], AV.int IntKind.i64 0, AV.sl 0 [] Own.nil, AV.str [], AV.int IntKind.i64 0, AV.sl 0 [] Own.nil, AV.sl 0 [] Own.nil, AV.sl 0 [] Own.nil, AV.sl 0 [] Own.nil, AV.sl 0 [] Own.nil, AV.bool false]], live := [(w.all.length, (29 : Nat)), (w.fresh.length, (29 : Nat))] }
 { boxes := [some (wC (againL w s y)), some [AV.int IntKind.i64 4, AV.int IntKind.i64 s, AV.int IntKind.i64 n], some [AV.str [], AV.int IntKind.i64 0, AV.sl 0 [] Own.nil, AV.str [], AV.int IntKind.i64 0, AV.sl 0 [] Own.nil, AV.sl 0 [] Own.nil, AV.sl 0 [] Own.nil, AV.sl 0 [] Own.nil, AV.sl 0 [] Own.nil, AV.bool false]], live := [((againL w s y).all.length, (29 : Nat)), ((againL w s y).fresh.length, (29 : Nat))] } ∧
 y ≤ (openP w s).length ∧ True) ∧
 ∀ (x : Nat),
 x ≤ (openP w s).length →
 (decide ((↑x : Int) < (↑(pksL (openP w s)).length : Int)) = true →
 ((0 : Int) ≤ (↑x : Int) ∧ (↑x : Int) < (↑(pksL (openP w s)).length : Int)) ∧
 ∃ (s_1 : List UInt8),
 ∃ (b : Bool),
 ∃ (n_1 : Int),
 ∃ (s_2 : List UInt8),
 ∃ (n_2 : Int),
 ∃ (n_3 : Int),
 ∃ (n_4 : Int),
 ∃ (s_3 : List UInt8),
 ∃ (s_4 : List UInt8),
 ∃ (n_5 : Int),
 ∃ (es : List AV),
 takeAt PI 31 (pksL (openP w s)) (↑x : Int).toNat 0 =
 some
 (AV.agg
 [AV.str s_1, AV.bool b, AV.int IntKind.i64 n_1, AV.str s_2,
 AV.int IntKind.i64 n_2, AV.int IntKind.i64 n_3, AV.int IntKind.i64 n_4,
 AV.str s_3, AV.str s_4, AV.int IntKind.i64 n_5,
 AV.sl 3 es Own.no]) ∧
 (WAsk
 (wC (againL w s x))
 (againL w s x).all.length (againL w s x).fresh.length ∧
 PAsk
 [AV.str s_1, AV.bool b, AV.int IntKind.i64 n_1, AV.str s_2,
 AV.int IntKind.i64 n_2, AV.int IntKind.i64 n_3, AV.int IntKind.i64 n_4,
 AV.str s_3, AV.str s_4, AV.int IntKind.i64 n_5,
 AV.sl 3 es Own.no]) ∧
 ∃ (s_5 : List UInt8),
 ∃ (n_6 : Int),
 ∃ (es_1 : List AV),
 ∃ (s_6 : List UInt8),
 ∃ (n_7 : Int),
 ∃ (es_2 : List AV),
 ∃ (es_3 : List AV),
 ∃ (es_4 : List AV),
 ∃ (es_5 : List AV),
 ∃ (es_6 : List AV),
 ∃ (b_1 : Bool),
 OutIs
 (keptWA
 (keptSend
 (wC (againL w s x))
 [AV.str s_1, AV.bool b, AV.int IntKind.i64 n_1,
 AV.str s_2, AV.int IntKind.i64 n_2,
 AV.int IntKind.i64 n_3, AV.int IntKind.i64 n_4,
 AV.str s_3, AV.str s_4, AV.int IntKind.i64 n_5,
 AV.sl 3 es Own.no]))
 (AV.agg
 [AV.str s_5, AV.int IntKind.i64 n_6,
 AV.sl 8 es_1 Own.no, AV.str s_6,
 AV.int IntKind.i64 n_7,
 AV.sl 8 es_2 Own.no,
 AV.sl 11 es_3 Own.no,
 AV.sl 3 es_4 Own.no,
 AV.sl 8 es_5 (Own.tok 0),
 AV.sl 8 es_6 (Own.tok 1),
 AV.bool b_1]) ∧
 ∃ (y : Nat),
 ValsAre
 [AV.ptr 0 0,
 AV.ptr 2 0,
 AV.sl 11 (pksL (openP w s)) Own.no,
 AV.int IntKind.i64
 (IntKind.i64.wrap ((↑x : Int) + (1 : Int)))]
 [AV.ptr 0 0,
 AV.ptr 2 0,
 AV.sl 11 (pksL (openP w s)) Own.no,
 AV.int IntKind.i64 (↑y : Int)] ∧
 StIs
 { boxes := [some [AV.str s_5, AV.int IntKind.i64 n_6, AV.sl 8 es_1 Own.no, AV.str s_6, AV.int IntKind.i64 n_7, AV.sl 8 es_2 Own.no, AV.sl 11 es_3 Own.no, AV.sl 3 es_4 Own.no, AV.sl 8 es_5 (Own.tok 0), AV.sl 8 es_6 (Own.tok 1), AV.bool b_1], some [AV.int IntKind.i64 4, AV.int IntKind.i64 s, AV.int IntKind.i64 n], some [AV.str [], AV.int IntKind.i64 0, AV.sl 0 [] Own.nil, AV.str [], AV.int IntKind.i64 0, AV.sl 0 [] Own.nil, AV.sl 0 [] Own.nil, AV.sl 0 [] Own.nil, AV.sl 0 [] Own.nil, AV.sl 0 [] Own.nil, AV.bool false]], live := [((keptSend (wC (againL w s x)) [AV.str s_1, AV.bool b, AV.int IntKind.i64 n_1, AV.str s_2, AV.int IntKind.i64 n_2, AV.int IntKind.i64 n_3, AV.int IntKind.i64 n_4, AV.str s_3, AV.str s_4, AV.int IntKind.i64 n_5, AV.sl 3 es Own.no]).all.length, (29 : Nat)), ((keptSend (wC (againL w s x)) [AV.str s_1, AV.bool b, AV.int IntKind.i64 n_1, AV.str s_2, AV.int IntKind.i64 n_2, AV.int IntKind.i64 n_3, AV.int IntKind.i64 n_4, AV.str s_3, AV.str s_4, AV.int IntKind.i64 n_5, AV.sl 3 es Own.no]).fresh.length, (29 : Nat))] }
 { boxes := [some (wC (againL w s y)), some [AV.int IntKind.i64 4, AV.int IntKind.i64 s, AV.int IntKind.i64 n], some [AV.str [], AV.int IntKind.i64 0, AV.sl 0 [] Own.nil, AV.str [], AV.int IntKind.i64 0, AV.sl 0 [] Own.nil, AV.sl 0 [] Own.nil, AV.sl 0 [] Own.nil, AV.sl 0 [] Own.nil, AV.sl 0 [] Own.nil, AV.bool false]], live := [((againL w s y).all.length, (29 : Nat)), ((againL w s y).fresh.length, (29 : Nat))] } ∧
 y ≤ (openP w s).length ∧
 (openP w s).length - y < (openP w s).length - x) ∧
 (decide ((↑x : Int) < (↑(pksL (openP w s)).length : Int)) = false →
 RetK
 (AV.agg
 (wC (againL w s x)))
 [((againL w s x).all.length, (29 : Nat)), ((againL w s x).fresh.length, (29 : Nat))]
 (AV.agg
 (wC r),
 [(r.all.length, (29 : Nat)), (r.fresh.length, (29 : Nat))]))) ∧
 (true = false →
 RetK
 (AV.agg
 (wCg w))
 [(w.all.length, (29 : Nat)), (w.fresh.length, (29 : Nat))]
 (AV.agg
 (wC r),
 [(r.all.length, (29 : Nat)), (r.fresh.length, (29 : Nat))])))))))) := by kernel_rfl
theorem ww24o (m : Int) (w : WoI) (k s n : Int) (r : WoI) : (lkW PI (GI m) XNo (tbl []) (itbl []) (av24n w k s n) [] 24 [.agg (wCg w), .agg [.int .i64 k, .int .i64 s, .int .i64 n]] (wL w) (wA r, wL r)) =
(((decide ((↑(pksL w.c).length : Int) > (0 : Int)) = true →
      (↑(pksL w.c).length : Int) ≠ (0 : Int) ∧
        (↑(pksL w.c).length : Int) ≠ (0 : Int) ∧
 ∃ (_y : Unit),
 ValsAre
 [AV.ptr 0 0, AV.ptr 1 0, AV.ptr 2 0,
 AV.int IntKind.i64 ((IntKind.i64.wrap (n.tmod (↑(pksL w.c).length : Int) + (↑(pksL w.c).length : Int))).tmod (↑(pksL w.c).length : Int)),
 AV.int IntKind.i64 (↑(pksL w.c).length : Int)]
 [AV.ptr 0 0, AV.ptr 1 0, AV.ptr 2 0, AV.int IntKind.i64 (nIdx w.c n),
 AV.int IntKind.i64 (↑w.c.length : Int)] ∧
 StIs
 { boxes := [some (wCg w), some [AV.int IntKind.i64 k, AV.int IntKind.i64 s, AV.int IntKind.i64 n], some [AV.str [], AV.int IntKind.i64 0, AV.sl 0 [] Own.nil, AV.str [], AV.int IntKind.i64 0, AV.sl 0 [] Own.nil, AV.sl 0 [] Own.nil, AV.sl 0 [] Own.nil, AV.sl 0 [] Own.nil, AV.sl 0 [] Own.nil, AV.bool false]], live := [(w.all.length, (29 : Nat)), (w.fresh.length, (29 : Nat))] }
 { boxes := [some (wCg w), some [AV.int IntKind.i64 k, AV.int IntKind.i64 s, AV.int IntKind.i64 n], some [AV.str [], AV.int IntKind.i64 0, AV.sl 0 [] Own.nil, AV.str [], AV.int IntKind.i64 0, AV.sl 0 [] Own.nil, AV.sl 0 [] Own.nil, AV.sl 0 [] Own.nil, AV.sl 0 [] Own.nil, AV.sl 0 [] Own.nil, AV.bool false]], live := [(w.all.length, (29 : Nat)), (w.fresh.length, (29 : Nat))] } ∧
 True ∧ True) ∧
    (decide ((↑(pksL w.c).length : Int) > (0 : Int)) = false →
      ∃ (_y : Unit),
        ValsAre
 [AV.ptr 0 0, AV.ptr 1 0, AV.ptr 2 0, AV.int IntKind.i64 (-1 : Int),
 AV.int IntKind.i64 (↑(pksL w.c).length : Int)]
 [AV.ptr 0 0, AV.ptr 1 0, AV.ptr 2 0, AV.int IntKind.i64 (nIdx w.c n),
 AV.int IntKind.i64 (↑w.c.length : Int)] ∧
 StIs
 { boxes := [some (wCg w), some [AV.int IntKind.i64 k, AV.int IntKind.i64 s, AV.int IntKind.i64 n], some [AV.str [], AV.int IntKind.i64 0, AV.sl 0 [] Own.nil, AV.str [], AV.int IntKind.i64 0, AV.sl 0 [] Own.nil, AV.sl 0 [] Own.nil, AV.sl 0 [] Own.nil, AV.sl 0 [] Own.nil, AV.sl 0 [] Own.nil, AV.bool false]], live := [(w.all.length, (29 : Nat)), (w.fresh.length, (29 : Nat))] }
 { boxes := [some (wCg w), some [AV.int IntKind.i64 k, AV.int IntKind.i64 s, AV.int IntKind.i64 n], some [AV.str [], AV.int IntKind.i64 0, AV.sl 0 [] Own.nil, AV.str [], AV.int IntKind.i64 0, AV.sl 0 [] Own.nil, AV.sl 0 [] Own.nil, AV.sl 0 [] Own.nil, AV.sl 0 [] Own.nil, AV.sl 0 [] Own.nil, AV.bool false]], live := [(w.all.length, (29 : Nat)), (w.fresh.length, (29 : Nat))] } ∧
 True ∧ True)) ∧
  ∀ (_x : Unit),
    True →
      True →
        ((k == (0 : Int)) = true → False) ∧
 ((k == (0 : Int)) = false →
 ((k == (1 : Int)) = true → False) ∧
 ((k == (1 : Int)) = false →
 ((k == (2 : Int)) = true → False) ∧
 ((k == (2 : Int)) = false →
 ((k == (3 : Int)) = true → False) ∧
 ((k == (3 : Int)) = false →
 ((k == (4 : Int)) = true → False) ∧
 ((k == (4 : Int)) = false →
 RetK
 (AV.agg
 (wCg w))
 [(w.all.length, (29 : Nat)), (w.fresh.length, (29 : Nat))]
 (AV.agg
 (wC r),
 [(r.all.length, (29 : Nat)), (r.fresh.length, (29 : Nat))]))))))) := by kernel_rfl
theorem ww20 (m : Int) (l : List AcI) : (lkW PI (GI m) XWo (tbl [(41, v41)]) (itbl [(24, v24.up), (1000024, fun _ _ => some (False, .junk, ⟨[], []⟩))]) (av20 l) [] 20 [.sl 3 (acsL l) .no] [] (wA (ranO l), wL (ranO l))) =
(CallIs
    (some
      (AV.agg
 [AV.str [(97 : UInt8), (112 : UInt8), (112 : UInt8)], AV.int IntKind.i64 1, AV.sl 8 [] Own.no,
 AV.str [(119 : UInt8), (101 : UInt8), (98 : UInt8)], AV.int IntKind.i64 1, AV.sl 8 [] Own.no, AV.sl 0 [] Own.nil,
 AV.sl 0 [] Own.nil, AV.sl 0 [] Own.nil, AV.sl 0 [] Own.nil, AV.bool false],
        []))
    (AV.agg
      [AV.str [(97 : UInt8), (112 : UInt8), (112 : UInt8)], AV.int IntKind.i64 1, AV.sl 8 [] Own.no,
        AV.str [(119 : UInt8), (101 : UInt8), (98 : UInt8)], AV.int IntKind.i64 1, AV.sl 8 [] Own.no, AV.sl 0 [] Own.nil,
        AV.sl 0 [] Own.nil, AV.sl 0 [] Own.nil, AV.sl 0 [] Own.nil, AV.bool false])
    [] ∧
  (∃ (y : Nat),
      ValsAre [AV.sl 3 (acsL l) Own.no, AV.ptr 0 0, AV.ptr 1 0, AV.int IntKind.i64 0]
 [AV.sl 3 (acsL l) Own.no, AV.ptr 0 0, AV.ptr 1 0, AV.int IntKind.i64 (↑y : Int)] ∧
        StIs
 { boxes := [some [AV.str [], AV.int IntKind.i64 0, AV.sl 0 [] Own.nil, AV.str [], AV.int IntKind.i64 0, AV.sl 0 [] Own.nil, AV.sl 0 [] Own.nil, AV.sl 0 [] Own.nil, AV.sl 0 [] Own.nil, AV.sl 0 [] Own.nil, AV.bool false], some [AV.str [(97 : UInt8), (112 : UInt8), (112 : UInt8)], AV.int IntKind.i64 1, AV.sl 8 [] Own.no, AV.str [(119 : UInt8), (101 : UInt8), (98 : UInt8)], AV.int IntKind.i64 1, AV.sl 8 [] Own.no, AV.sl 11 [] Own.no, AV.sl 3 [] Own.no, AV.sl 8 [] (Own.tok 0), AV.sl 8 [] (Own.tok 1), AV.bool false]], live := [((0 : Nat), (29 : Nat)), ((0 : Nat), (29 : Nat))] }
 { boxes := [some [AV.str [], AV.int IntKind.i64 0, AV.sl 0 [] Own.nil, AV.str [], AV.int IntKind.i64 0, AV.sl 0 [] Own.nil, AV.sl 0 [] Own.nil, AV.sl 0 [] Own.nil, AV.sl 0 [] Own.nil, AV.sl 0 [] Own.nil, AV.bool false], some (wC (ranO (List.take y l)))], live := [((ranO (List.take y l)).all.length, (29 : Nat)), ((ranO (List.take y l)).fresh.length, (29 : Nat))] } ∧
 y ≤ l.length ∧ True) ∧
    ∀ (x : Nat),
      x ≤ l.length →
        (decide ((↑x : Int) < (↑(acsL l).length : Int)) = true →
 ((0 : Int) ≤ (↑x : Int) ∧ (↑x : Int) < (↑(acsL l).length : Int)) ∧
 ∃ (n : Int),
 ∃ (n_1 : Int),
 ∃ (n_2 : Int),
 takeAt PI 61 (acsL l) (↑x : Int).toNat 0 =
 some (AV.agg [AV.int IntKind.i64 n, AV.int IntKind.i64 n_1, AV.int IntKind.i64 n_2]) ∧
 XAsk
 (wC (ranO (List.take x l)))
 (ranO (List.take x l)).all.length (ranO (List.take x l)).fresh.length ∧
 ∃ (s : List UInt8),
 ∃ (n_3 : Int),
 ∃ (es : List AV),
 ∃ (s_1 : List UInt8),
 ∃ (n_4 : Int),
 ∃ (es_1 : List AV),
 ∃ (es_2 : List AV),
 ∃ (es_3 : List AV),
 ∃ (es_4 : List AV),
 ∃ (es_5 : List AV),
 ∃ (b : Bool),
 OutIs
 (keptWA
 (keptAct
 (wC (ranO (List.take x l)))
 [AV.int IntKind.i64 n, AV.int IntKind.i64 n_1, AV.int IntKind.i64 n_2]))
 (AV.agg
 [AV.str s, AV.int IntKind.i64 n_3, AV.sl 8 es Own.no, AV.str s_1, AV.int IntKind.i64 n_4,
 AV.sl 8 es_1 Own.no, AV.sl 11 es_2 Own.no, AV.sl 3 es_3 Own.no,
 AV.sl 8 es_4 (Own.tok 0), AV.sl 8 es_5 (Own.tok 1), AV.bool b]) ∧
 ∃ (y : Nat),
 ValsAre
 [AV.sl 3 (acsL l) Own.no, AV.ptr 0 0, AV.ptr 1 0,
 AV.int IntKind.i64 (IntKind.i64.wrap ((↑x : Int) + (1 : Int)))]
 [AV.sl 3 (acsL l) Own.no, AV.ptr 0 0, AV.ptr 1 0,
 AV.int IntKind.i64 (↑y : Int)] ∧
 StIs
 { boxes := [some [AV.str [], AV.int IntKind.i64 0, AV.sl 0 [] Own.nil, AV.str [], AV.int IntKind.i64 0, AV.sl 0 [] Own.nil, AV.sl 0 [] Own.nil, AV.sl 0 [] Own.nil, AV.sl 0 [] Own.nil, AV.sl 0 [] Own.nil, AV.bool false], some [AV.str s, AV.int IntKind.i64 n_3, AV.sl 8 es Own.no, AV.str s_1, AV.int IntKind.i64 n_4, AV.sl 8 es_1 Own.no, AV.sl 11 es_2 Own.no, AV.sl 3 es_3 Own.no, AV.sl 8 es_4 (Own.tok 0), AV.sl 8 es_5 (Own.tok 1), AV.bool b]], live := [((keptAct (wC (ranO (List.take x l))) [AV.int IntKind.i64 n, AV.int IntKind.i64 n_1, AV.int IntKind.i64 n_2]).all.length, (29 : Nat)), ((keptAct (wC (ranO (List.take x l))) [AV.int IntKind.i64 n, AV.int IntKind.i64 n_1, AV.int IntKind.i64 n_2]).fresh.length, (29 : Nat))] }
 { boxes := [some [AV.str [], AV.int IntKind.i64 0, AV.sl 0 [] Own.nil, AV.str [], AV.int IntKind.i64 0, AV.sl 0 [] Own.nil, AV.sl 0 [] Own.nil, AV.sl 0 [] Own.nil, AV.sl 0 [] Own.nil, AV.sl 0 [] Own.nil, AV.bool false], some (wC (ranO (List.take y l)))], live := [((ranO (List.take y l)).all.length, (29 : Nat)), ((ranO (List.take y l)).fresh.length, (29 : Nat))] } ∧
 y ≤ l.length ∧ l.length - y < l.length - x) ∧
 (decide ((↑x : Int) < (↑(acsL l).length : Int)) = false →
 RetK
 (AV.agg
 (wC (ranO (List.take x l))))
 [((ranO (List.take x l)).all.length, (29 : Nat)), ((ranO (List.take x l)).fresh.length, (29 : Nat))]
 (AV.agg
 (wC (ranO l)),
 [((ranO l).all.length, (29 : Nat)), ((ranO l).fresh.length, (29 : Nat))]))) := by kernel_rfl
theorem ww41 (m : Int) : (pureW PI (GI m) XWo (tbl [(9, z10)]) (itbl []) nAn [] 41 [] (.agg [.str appB, .int .i64 1, .sl 8 [] .no, .str webB, .int .i64 1, .sl 8 [] .no, .sl 0 [] .nil, .sl 0 [] .nil, .sl 0 [] .nil, .sl 0 [] .nil, .bool false], [])) =
(∃ (s : List UInt8),
  ∃ (n : Int),
    ∃ (es : List AV),
      ∃ (n_1 : Int),
        CallIs
 (some
 (AV.tup
 [AV.agg [AV.str [(97 : UInt8), (112 : UInt8), (112 : UInt8)], AV.int IntKind.i64 1, AV.sl 8 [] Own.no],
 AV.int IntKind.i64 0],
 []))
 (AV.tup [AV.agg [AV.str s, AV.int IntKind.i64 n, AV.sl 8 es Own.no], AV.int IntKind.i64 n_1]) [] ∧
 ∃ (s_1 : List UInt8),
 ∃ (n_2 : Int),
 ∃ (es_1 : List AV),
 ∃ (n_3 : Int),
 CallIs
 (some
 (AV.tup
 [AV.agg [AV.str [(119 : UInt8), (101 : UInt8), (98 : UInt8)], AV.int IntKind.i64 1, AV.sl 8 [] Own.no],
 AV.int IntKind.i64 0],
 []))
 (AV.tup [AV.agg [AV.str s_1, AV.int IntKind.i64 n_2, AV.sl 8 es_1 Own.no], AV.int IntKind.i64 n_3]) [] ∧
 ((n_1 != (0 : Int)) = true →
 RetIs
 (AV.agg
 [AV.str s, AV.int IntKind.i64 n, AV.sl 8 es Own.no, AV.str s_1, AV.int IntKind.i64 n_2, AV.sl 8 es_1 Own.no,
 AV.sl 0 [] Own.nil, AV.sl 0 [] Own.nil, AV.sl 0 [] Own.nil, AV.sl 0 [] Own.nil,
 AV.bool true])
 []
 (AV.agg
 [AV.str [(97 : UInt8), (112 : UInt8), (112 : UInt8)], AV.int IntKind.i64 1, AV.sl 8 [] Own.no,
 AV.str [(119 : UInt8), (101 : UInt8), (98 : UInt8)], AV.int IntKind.i64 1, AV.sl 8 [] Own.no,
 AV.sl 0 [] Own.nil, AV.sl 0 [] Own.nil, AV.sl 0 [] Own.nil, AV.sl 0 [] Own.nil,
 AV.bool false],
 [])) ∧
 ((n_1 != (0 : Int)) = false →
 ((n_3 != (0 : Int)) = true →
 RetIs
 (AV.agg
 [AV.str s, AV.int IntKind.i64 n, AV.sl 8 es Own.no, AV.str s_1, AV.int IntKind.i64 n_2, AV.sl 8 es_1 Own.no,
 AV.sl 0 [] Own.nil, AV.sl 0 [] Own.nil, AV.sl 0 [] Own.nil, AV.sl 0 [] Own.nil,
 AV.bool true])
 []
 (AV.agg
 [AV.str [(97 : UInt8), (112 : UInt8), (112 : UInt8)], AV.int IntKind.i64 1, AV.sl 8 [] Own.no,
 AV.str [(119 : UInt8), (101 : UInt8), (98 : UInt8)], AV.int IntKind.i64 1, AV.sl 8 [] Own.no,
 AV.sl 0 [] Own.nil, AV.sl 0 [] Own.nil, AV.sl 0 [] Own.nil, AV.sl 0 [] Own.nil,
 AV.bool false],
 [])) ∧
 ((n_3 != (0 : Int)) = false →
 RetIs
 (AV.agg
 [AV.str s, AV.int IntKind.i64 n, AV.sl 8 es Own.no, AV.str s_1, AV.int IntKind.i64 n_2, AV.sl 8 es_1 Own.no,
 AV.sl 0 [] Own.nil, AV.sl 0 [] Own.nil, AV.sl 0 [] Own.nil, AV.sl 0 [] Own.nil,
 AV.bool false])
 []
 (AV.agg
 [AV.str [(97 : UInt8), (112 : UInt8), (112 : UInt8)], AV.int IntKind.i64 1, AV.sl 8 [] Own.no,
 AV.str [(119 : UInt8), (101 : UInt8), (98 : UInt8)], AV.int IntKind.i64 1, AV.sl 8 [] Own.no,
 AV.sl 0 [] Own.nil, AV.sl 0 [] Own.nil, AV.sl 0 [] Own.nil, AV.sl 0 [] Own.nil,
 AV.bool false],
 [])))) := by kernel_rfl
end Go.Abs
