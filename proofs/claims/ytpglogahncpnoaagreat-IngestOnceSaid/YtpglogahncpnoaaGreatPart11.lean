/- Own texts, part 11. -/
import Derived.Test.YtpglogahncpnoaaGreatPart10

namespace Go.Abs
open Go.Proofs
theorem ww4 (m : Int) (l : List AcI) : (pureW PI (GI m) XWo (tbl tO) (itbl tOi) (av4 (ranO l)) [] 4 [.sl 3 (acsL l) .no] (.bool true, [])) =
(∃ (b : Bool),
  CallIs (some (AV.bool true, [])) (AV.bool b) [] ∧
    (b = true →
        (decide ((↑(acsL l).length : Int) > (100 : Int)) = true → RetIs (AV.bool true) [] (AV.bool true, [])) ∧
 (decide ((↑(acsL l).length : Int) > (100 : Int)) = false →
 (∃ (l_1 : List AcI), acsL l = acsL l_1 ∧ l_1.length ≤ (100 : Nat)) ∧
 ∃ (s : List UInt8),
 ∃ (n : Int),
 ∃ (es : List AV),
 ∃ (s_1 : List UInt8),
 ∃ (n_1 : Int),
 ∃ (es_1 : List AV),
 ∃ (es_2 : List AV),
 ∃ (es_3 : List AV),
 ∃ (es_4 : List AV),
 ∃ (es_5 : List AV),
 ∃ (b : Bool),
 OutIs (keptWA (keptRan (acsL l)))
 (AV.agg
 [AV.str s, AV.int IntKind.i64 n, AV.sl ((8 : Nat)) es Own.no, AV.str s_1, AV.int IntKind.i64 n_1,
 AV.sl ((8 : Nat)) es_1 Own.no, AV.sl ((11 : Nat)) es_2 Own.no, AV.sl ((3 : Nat)) es_3 Own.no,
 AV.sl ((8 : Nat)) es_4 (Own.tok ((0 : Nat))), AV.sl ((8 : Nat)) es_5 (Own.tok ((1 : Nat))), AV.bool b]) ∧
 (∃ (y : Nat),
 ValsAre [AV.ptr ((0 : Nat)) ((0 : Nat)), AV.int IntKind.i64 (0 : Int)]
 [AV.ptr ((0 : Nat)) ((0 : Nat)), AV.int IntKind.i64 (↑y : Int)] ∧
 StIs
 { boxes := [some [AV.str s, AV.int IntKind.i64 n, AV.sl ((8 : Nat)) es Own.no, AV.str s_1, AV.int IntKind.i64 n_1, AV.sl ((8 : Nat)) es_1 Own.no, AV.sl ((11 : Nat)) es_2 Own.no, AV.sl ((3 : Nat)) es_3 Own.no, AV.sl ((8 : Nat)) es_4 (Own.tok ((0 : Nat))), AV.sl ((8 : Nat)) es_5 (Own.tok ((1 : Nat))), AV.bool b]], live := [((keptRan (acsL l)).all.length, (29 : Nat)), ((keptRan (acsL l)).fresh.length, (29 : Nat))] }
 { boxes := [some [AV.str (ranO l).a.nm, AV.int IntKind.i64 (ranO l).a.nx, AV.sl ((8 : Nat)) (fcsL (ranO l).a.l) Own.no, AV.str (ranO l).b.nm, AV.int IntKind.i64 (ranO l).b.nx, AV.sl ((8 : Nat)) (fcsL (ranO l).b.l) Own.no, AV.sl ((11 : Nat)) (pksL (ranO l).c) Own.no, AV.sl ((3 : Nat)) (bxsL (ranO l).r) Own.no, AV.sl ((8 : Nat)) (fcsL (ranO l).all) (Own.tok ((0 : Nat))), AV.sl ((8 : Nat)) (fcsL (ranO l).fresh) (Own.tok ((1 : Nat))), AV.bool (ranO l).bad]], live := [((ranO l).all.length, (29 : Nat)), ((ranO l).fresh.length, (29 : Nat))] } ∧
 y ≤ (ranO l).fresh.length ∧ True) ∧
 ∀ (x : Nat),
 x ≤ (ranO l).fresh.length →
 (decide ((↑x : Int) < (↑(fcsL (ranO l).fresh).length : Int)) = true →
 ((0 : Int) ≤ (↑x : Int) ∧ (↑x : Int) < (↑(fcsL (ranO l).fresh).length : Int)) ∧
 ∃ (s : List UInt8),
 ∃ (n : Int),
 ∃ (n_2 : Int),
 ∃ (n_3 : Int),
 ∃ (s_2 : List UInt8),
 ∃ (s_3 : List UInt8),
 ∃ (n_4 : Int),
 ∃ (es : List AV),
 takeAt PI ((29 : Nat)) (fcsL (ranO l).fresh) (↑x : Int).toNat ((0 : Nat)) =
 some
 (AV.agg
 [AV.str s, AV.int IntKind.i64 n, AV.int IntKind.i64 n_2, AV.int IntKind.i64 n_3,
 AV.str s_2, AV.str s_3, AV.int IntKind.i64 n_4, AV.sl ((3 : Nat)) es Own.no]) ∧
 ∃ (n_5 : Int),
 CallIs
 (tbl [((7 : Nat), s7), ((16 : Nat), s22), ((21 : Nat), v21), ((22 : Nat), v22)]
 ((21 : Nat))
 [AV.sl ((8 : Nat)) (fcsL (ranO l).fresh) Own.no,
 AV.agg [AV.str s, AV.int IntKind.i64 n]])
 (AV.int IntKind.i64 n_5) [] ∧
 ((n_5 != (1 : Int)) = true → RetIs (AV.bool false) [] (AV.bool true, [])) ∧
 ((n_5 != (1 : Int)) = false →
 (decide (n_4 < (0 : Int)) = true → RetIs (AV.bool false) [] (AV.bool true, [])) ∧
 (decide (n_4 < (0 : Int)) = false →
 (decide (n_4 ≥ (↑(fcsL (ranO l).all).length : Int)) = true →
 RetIs (AV.bool false) [] (AV.bool true, [])) ∧
 (decide (n_4 ≥ (↑(fcsL (ranO l).all).length : Int)) = false →
 ((0 : Int) ≤ n_4 ∧ n_4 < (↑(fcsL (ranO l).all).length : Int)) ∧
 ∃ (s_4 : List UInt8),
 ∃ (n_6 : Int),
 ∃ (n_7 : Int),
 ∃ (n_8 : Int),
 ∃ (s_5 : List UInt8),
 ∃ (s_6 : List UInt8),
 ∃ (n_9 : Int),
 ∃ (es_6 : List AV),
 takeAt PI ((29 : Nat)) (fcsL (ranO l).all) n_4.toNat
 ((0 : Nat)) =
 some
 (AV.agg
 [AV.str s_4, AV.int IntKind.i64 n_6,
 AV.int IntKind.i64 n_7, AV.int IntKind.i64 n_8,
 AV.str s_5, AV.str s_6, AV.int IntKind.i64 n_9,
 AV.sl ((3 : Nat)) es_6 Own.no]) ∧
 ∃ (b : Bool),
 CallIs
 (tbl
 [((7 : Nat), s7), ((16 : Nat), s22),
 ((21 : Nat), v21), ((22 : Nat), v22)]
 ((22 : Nat))
 [AV.agg
 [AV.str s_4, AV.int IntKind.i64 n_6,
 AV.int IntKind.i64 n_7,
 AV.int IntKind.i64 n_8, AV.str s_5,
 AV.str s_6, AV.int IntKind.i64 n_9,
 AV.sl ((3 : Nat)) es_6 Own.no],
 AV.agg
 [AV.str s, AV.int IntKind.i64 n,
 AV.int IntKind.i64 n_2,
 AV.int IntKind.i64 n_3, AV.str s_2,
 AV.str s_3, AV.int IntKind.i64 n_4,
 AV.sl ((3 : Nat)) es Own.no]])
 (AV.bool b) [] ∧
 (b = true →
 ∃ (y : Nat),
 ValsAre
 [AV.ptr ((0 : Nat)) ((0 : Nat)),
 AV.int IntKind.i64
 (IntKind.i64.wrap
 ((↑x : Int) + (1 : Int)))]
 [AV.ptr ((0 : Nat)) ((0 : Nat)),
 AV.int IntKind.i64 (↑y : Int)] ∧
 StIs
 { boxes := [some [AV.str (ranO l).a.nm, AV.int IntKind.i64 (ranO l).a.nx, AV.sl ((8 : Nat)) (fcsL (ranO l).a.l) Own.no, AV.str (ranO l).b.nm, AV.int IntKind.i64 (ranO l).b.nx, AV.sl ((8 : Nat)) (fcsL (ranO l).b.l) Own.no, AV.sl ((11 : Nat)) (pksL (ranO l).c) Own.no, AV.sl ((3 : Nat)) (bxsL (ranO l).r) Own.no, AV.sl ((8 : Nat)) (fcsL (ranO l).all) (Own.tok ((0 : Nat))), AV.sl ((8 : Nat)) (fcsL (ranO l).fresh) (Own.tok ((1 : Nat))), AV.bool (ranO l).bad]], live := [((ranO l).all.length, (29 : Nat)), ((ranO l).fresh.length, (29 : Nat))] }
 { boxes := [some [AV.str (ranO l).a.nm, AV.int IntKind.i64 (ranO l).a.nx, AV.sl ((8 : Nat)) (fcsL (ranO l).a.l) Own.no, AV.str (ranO l).b.nm, AV.int IntKind.i64 (ranO l).b.nx, AV.sl ((8 : Nat)) (fcsL (ranO l).b.l) Own.no, AV.sl ((11 : Nat)) (pksL (ranO l).c) Own.no, AV.sl ((3 : Nat)) (bxsL (ranO l).r) Own.no, AV.sl ((8 : Nat)) (fcsL (ranO l).all) (Own.tok ((0 : Nat))), AV.sl ((8 : Nat)) (fcsL (ranO l).fresh) (Own.tok ((1 : Nat))), AV.bool (ranO l).bad]], live := [((ranO l).all.length, (29 : Nat)), ((ranO l).fresh.length, (29 : Nat))] } ∧
 y ≤ (ranO l).fresh.length ∧
 (ranO l).fresh.length - y <
 (ranO l).fresh.length - x) ∧
 (b = false →
 RetIs (AV.bool false) []
 (AV.bool true, [])))))) ∧
 (decide ((↑x : Int) < (↑(fcsL (ranO l).fresh).length : Int)) = false →
 (∃ (y : Nat),
 ValsAre [AV.ptr ((0 : Nat)) ((0 : Nat)), AV.int IntKind.i64 (0 : Int)]
 [AV.ptr ((0 : Nat)) ((0 : Nat)), AV.int IntKind.i64 (↑y : Int)] ∧
 StIs
 { boxes := [some [AV.str (ranO l).a.nm, AV.int IntKind.i64 (ranO l).a.nx, AV.sl ((8 : Nat)) (fcsL (ranO l).a.l) Own.no, AV.str (ranO l).b.nm, AV.int IntKind.i64 (ranO l).b.nx, AV.sl ((8 : Nat)) (fcsL (ranO l).b.l) Own.no, AV.sl ((11 : Nat)) [] Own.no, AV.sl ((3 : Nat)) (bxsL (ranO l).r) Own.no, AV.sl ((8 : Nat)) (fcsL (ranO l).all) (Own.tok ((0 : Nat))), AV.sl ((8 : Nat)) (fcsL (ranO l).fresh) (Own.tok ((1 : Nat))), AV.bool (ranO l).bad]], live := [((ranO l).all.length, (29 : Nat)), ((ranO l).fresh.length, (29 : Nat))] }
 { boxes := [some [AV.str (wK (ranO l) y).a.nm, AV.int IntKind.i64 (wK (ranO l) y).a.nx, AV.sl ((8 : Nat)) (fcsL (wK (ranO l) y).a.l) Own.no, AV.str (wK (ranO l) y).b.nm, AV.int IntKind.i64 (wK (ranO l) y).b.nx, AV.sl ((8 : Nat)) (fcsL (wK (ranO l) y).b.l) Own.no, AV.sl ((11 : Nat)) (pksL (wK (ranO l) y).c) Own.no, AV.sl ((3 : Nat)) (bxsL (wK (ranO l) y).r) Own.no, AV.sl ((8 : Nat)) (fcsL (wK (ranO l) y).all) (Own.tok ((0 : Nat))), AV.sl ((8 : Nat)) (fcsL (wK (ranO l) y).fresh) (Own.tok ((1 : Nat))), AV.bool (wK (ranO l) y).bad]], live := [((wK (ranO l) y).all.length, (29 : Nat)), ((wK (ranO l) y).fresh.length, (29 : Nat))] } ∧
 y ≤ (2 : Nat) ∧ True) ∧
 ∀ (x : Nat),
 x ≤ (2 : Nat) →
 ((decide ((↑x : Int) < (2 : Int)) = true →
 ∃ (y : Nat),
 ValsAre [AV.ptr ((0 : Nat)) ((0 : Nat)), AV.int IntKind.i64 (↑x : Int)]
 [AV.ptr ((0 : Nat)) ((0 : Nat)), AV.int IntKind.i64 (↑y : Int)] ∧
 StIs
 { boxes := [some [AV.str (wK (ranO l) x).a.nm, AV.int IntKind.i64 (wK (ranO l) x).a.nx, AV.sl ((8 : Nat)) (fcsL (wK (ranO l) x).a.l) Own.no, AV.str (wK (ranO l) x).b.nm, AV.int IntKind.i64 (wK (ranO l) x).b.nx, AV.sl ((8 : Nat)) (fcsL (wK (ranO l) x).b.l) Own.no, AV.sl ((11 : Nat)) (pksL (wK (ranO l) x).c) Own.no, AV.sl ((3 : Nat)) (bxsL (wK (ranO l) x).r) Own.no, AV.sl ((8 : Nat)) (fcsL (wK (ranO l) x).all) (Own.tok ((0 : Nat))), AV.sl ((8 : Nat)) (fcsL (wK (ranO l) x).fresh) (Own.tok ((1 : Nat))), AV.bool (wK (ranO l) x).bad]], live := [((wK (ranO l) x).all.length, (29 : Nat)), ((wK (ranO l) x).fresh.length, (29 : Nat))] }
 { boxes := [some [AV.str (wK (ranO l) y).a.nm, AV.int IntKind.i64 (wK (ranO l) y).a.nx, AV.sl ((8 : Nat)) (fcsL (wK (ranO l) y).a.l) Own.no, AV.str (wK (ranO l) y).b.nm, AV.int IntKind.i64 (wK (ranO l) y).b.nx, AV.sl ((8 : Nat)) (fcsL (wK (ranO l) y).b.l) Own.no, AV.sl ((11 : Nat)) (pksL (wK (ranO l) y).c) Own.no, AV.sl ((3 : Nat)) (bxsL (wK (ranO l) y).r) Own.no, AV.sl ((8 : Nat)) (fcsL (wK (ranO l) y).all) (Own.tok ((0 : Nat))), AV.sl ((8 : Nat)) (fcsL (wK (ranO l) y).fresh) (Own.tok ((1 : Nat))), AV.bool (wK (ranO l) y).bad]], live := [((wK (ranO l) y).all.length, (29 : Nat)), ((wK (ranO l) y).fresh.length, (29 : Nat))] } ∧
 y ≤ (1 : Nat) ∧ some (AV.int IntKind.i64 (↑x : Int)) = some (AV.int IntKind.i64 (↑y : Int))) ∧
 (decide ((↑x : Int) < (2 : Int)) = false →
 (∃ (y : StD),
 ValsAre [AV.ptr ((0 : Nat)) ((0 : Nat)), AV.int IntKind.i64 (0 : Int)]
 [AV.ptr ((0 : Nat)) ((0 : Nat)), AV.int IntKind.i64 (↑y.i : Int)] ∧
 StIs
 { boxes := [some [AV.str (wK (ranO l) x).a.nm, AV.int IntKind.i64 (wK (ranO l) x).a.nx, AV.sl ((8 : Nat)) (fcsL (wK (ranO l) x).a.l) Own.no, AV.str (wK (ranO l) x).b.nm, AV.int IntKind.i64 (wK (ranO l) x).b.nx, AV.sl ((8 : Nat)) (fcsL (wK (ranO l) x).b.l) Own.no, AV.sl ((11 : Nat)) (pksL (wK (ranO l) x).c) Own.no, AV.sl ((3 : Nat)) (bxsL (wK (ranO l) x).r) Own.no, AV.sl ((8 : Nat)) (fcsL (wK (ranO l) x).all) (Own.tok ((0 : Nat))), AV.sl ((8 : Nat)) (fcsL (wK (ranO l) x).fresh) (Own.tok ((1 : Nat))), AV.bool (wK (ranO l) x).bad]], live := [((wK (ranO l) x).all.length, (29 : Nat)), ((wK (ranO l) x).fresh.length, (29 : Nat))] }
 { boxes := [some [AV.str y.w.a.nm, AV.int IntKind.i64 y.w.a.nx, AV.sl ((8 : Nat)) (fcsL y.w.a.l) Own.no, AV.str y.w.b.nm, AV.int IntKind.i64 y.w.b.nx, AV.sl ((8 : Nat)) (fcsL y.w.b.l) Own.no, AV.sl ((11 : Nat)) (pksL y.w.c) Own.no, AV.sl ((3 : Nat)) (bxsL y.w.r) Own.no, AV.sl ((8 : Nat)) (fcsL y.w.all) (Own.tok ((0 : Nat))), AV.sl ((8 : Nat)) (fcsL y.w.fresh) (Own.tok ((1 : Nat))), AV.bool y.w.bad]], live := [(y.w.all.length, (29 : Nat)), (y.w.fresh.length, (29 : Nat))] } ∧
 (Drain (ranO l) y.w ∧ y.w.c.length + y.i ≤ (128 : Nat)) ∧ True) ∧
 ∀ (x : StD),
 Drain (ranO l) x.w ∧ x.w.c.length + x.i ≤ (128 : Nat) →
 (decide ((↑x.i : Int) < (5000 : Int)) = true →
 (decide ((↑(pksL x.w.c).length : Int) > (0 : Int)) = true →
 XAsk
 [AV.str x.w.a.nm, AV.int IntKind.i64 x.w.a.nx,
 AV.sl ((8 : Nat)) (fcsL x.w.a.l) Own.no, AV.str x.w.b.nm,
 AV.int IntKind.i64 x.w.b.nx, AV.sl ((8 : Nat)) (fcsL x.w.b.l) Own.no,
 AV.sl ((11 : Nat)) (pksL x.w.c) Own.no, AV.sl ((3 : Nat)) (bxsL x.w.r) Own.no,
 AV.sl ((8 : Nat)) (fcsL x.w.all) (Own.tok ((0 : Nat))),
 AV.sl ((8 : Nat)) (fcsL x.w.fresh) (Own.tok ((1 : Nat))), AV.bool x.w.bad]
 x.w.all.length x.w.fresh.length ∧
 ∃ (s : List UInt8),
 ∃ (n : Int),
 ∃ (es : List AV),
 ∃ (s_2 : List UInt8),
 ∃ (n_2 : Int),
 ∃ (es_6 : List AV),
 ∃ (es_7 : List AV),
 ∃ (es_8 : List AV),
 ∃ (es_9 : List AV),
 ∃ (es_10 : List AV),
 ∃ (b : Bool),
 OutIs
 (keptWA
 (keptAct
 [AV.str x.w.a.nm, AV.int IntKind.i64 x.w.a.nx,
 AV.sl ((8 : Nat)) (fcsL x.w.a.l) Own.no,
 AV.str x.w.b.nm, AV.int IntKind.i64 x.w.b.nx,
 AV.sl ((8 : Nat)) (fcsL x.w.b.l) Own.no,
 AV.sl ((11 : Nat)) (pksL x.w.c) Own.no,
 AV.sl ((3 : Nat)) (bxsL x.w.r) Own.no,
 AV.sl ((8 : Nat)) (fcsL x.w.all)
 (Own.tok ((0 : Nat))),
 AV.sl ((8 : Nat)) (fcsL x.w.fresh)
 (Own.tok ((1 : Nat))),
 AV.bool x.w.bad]
 [AV.int IntKind.i64 (1 : Int),
 AV.int IntKind.i64 (0 : Int),
 AV.int IntKind.i64 (0 : Int)]))
 (AV.agg
 [AV.str s, AV.int IntKind.i64 n,
 AV.sl ((8 : Nat)) es Own.no, AV.str s_2,
 AV.int IntKind.i64 n_2, AV.sl ((8 : Nat)) es_6 Own.no,
 AV.sl ((11 : Nat)) es_7 Own.no,
 AV.sl ((3 : Nat)) es_8 Own.no,
 AV.sl ((8 : Nat)) es_9 (Own.tok ((0 : Nat))),
 AV.sl ((8 : Nat)) es_10 (Own.tok ((1 : Nat))),
 AV.bool b]) ∧
 ∃ (y : StD),
 ValsAre
 [AV.ptr ((0 : Nat)) ((0 : Nat)),
 AV.int IntKind.i64
 (IntKind.i64.wrap ((↑x.i : Int) + (1 : Int)))]
 [AV.ptr ((0 : Nat)) ((0 : Nat)),
 AV.int IntKind.i64 (↑y.i : Int)] ∧
 StIs
 { boxes := [some [AV.str s, AV.int IntKind.i64 n, AV.sl ((8 : Nat)) es Own.no, AV.str s_2, AV.int IntKind.i64 n_2, AV.sl ((8 : Nat)) es_6 Own.no, AV.sl ((11 : Nat)) es_7 Own.no, AV.sl ((3 : Nat)) es_8 Own.no, AV.sl ((8 : Nat)) es_9 (Own.tok ((0 : Nat))), AV.sl ((8 : Nat)) es_10 (Own.tok ((1 : Nat))), AV.bool b]], live := [((keptAct [AV.str x.w.a.nm, AV.int IntKind.i64 x.w.a.nx, AV.sl ((8 : Nat)) (fcsL x.w.a.l) Own.no, AV.str x.w.b.nm, AV.int IntKind.i64 x.w.b.nx, AV.sl ((8 : Nat)) (fcsL x.w.b.l) Own.no, AV.sl ((11 : Nat)) (pksL x.w.c) Own.no, AV.sl ((3 : Nat)) (bxsL x.w.r) Own.no, AV.sl ((8 : Nat)) (fcsL x.w.all) (Own.tok ((0 : Nat))), AV.sl ((8 : Nat)) (fcsL x.w.fresh) (Own.tok ((1 : Nat))), AV.bool x.w.bad] [AV.int IntKind.i64 (1 : Int), AV.int IntKind.i64 (0 : Int), AV.int IntKind.i64 (0 : Int)]).all.length, (29 : Nat)), ((keptAct [AV.str x.w.a.nm, AV.int IntKind.i64 x.w.a.nx, AV.sl ((8 : Nat)) (fcsL x.w.a.l) Own.no, AV.str x.w.b.nm, AV.int IntKind.i64 x.w.b.nx, AV.sl ((8 : Nat)) (fcsL x.w.b.l) Own.no, AV.sl ((11 : Nat)) (pksL x.w.c) Own.no, AV.sl ((3 : Nat)) (bxsL x.w.r) Own.no, AV.sl ((8 : Nat)) (fcsL x.w.all) (Own.tok ((0 : Nat))), AV.sl ((8 : Nat)) (fcsL x.w.fresh) (Own.tok ((1 : Nat))), AV.bool x.w.bad] [AV.int IntKind.i64 (1 : Int), AV.int IntKind.i64 (0 : Int), AV.int IntKind.i64 (0 : Int)]).fresh.length, (29 : Nat))] }
 { boxes := [some [AV.str y.w.a.nm, AV.int IntKind.i64 y.w.a.nx, AV.sl ((8 : Nat)) (fcsL y.w.a.l) Own.no, AV.str y.w.b.nm, AV.int IntKind.i64 y.w.b.nx, AV.sl ((8 : Nat)) (fcsL y.w.b.l) Own.no, AV.sl ((11 : Nat)) (pksL y.w.c) Own.no, AV.sl ((3 : Nat)) (bxsL y.w.r) Own.no, AV.sl ((8 : Nat)) (fcsL y.w.all) (Own.tok ((0 : Nat))), AV.sl ((8 : Nat)) (fcsL y.w.fresh) (Own.tok ((1 : Nat))), AV.bool y.w.bad]], live := [(y.w.all.length, (29 : Nat)), (y.w.fresh.length, (29 : Nat))] } ∧
 (Drain (ranO l) y.w ∧
 y.w.c.length + y.i ≤ (128 : Nat)) ∧
 (128 : Nat) - y.i < (128 : Nat) - x.i) ∧
 (decide ((↑(pksL x.w.c).length : Int) > (0 : Int)) = false →
 (∃ (y : StD),
 ValsAre [AV.ptr ((0 : Nat)) ((0 : Nat)), AV.int IntKind.i64 (0 : Int)]
 [AV.ptr ((0 : Nat)) ((0 : Nat)), AV.int IntKind.i64 (↑y.i : Int)] ∧
 StIs
 { boxes := [some [AV.str x.w.a.nm, AV.int IntKind.i64 x.w.a.nx, AV.sl ((8 : Nat)) (fcsL x.w.a.l) Own.no, AV.str x.w.b.nm, AV.int IntKind.i64 x.w.b.nx, AV.sl ((8 : Nat)) (fcsL x.w.b.l) Own.no, AV.sl ((11 : Nat)) (pksL x.w.c) Own.no, AV.sl ((3 : Nat)) (bxsL x.w.r) Own.no, AV.sl ((8 : Nat)) (fcsL x.w.all) (Own.tok ((0 : Nat))), AV.sl ((8 : Nat)) (fcsL x.w.fresh) (Own.tok ((1 : Nat))), AV.bool x.w.bad]], live := [(x.w.all.length, (29 : Nat)), (x.w.fresh.length, (29 : Nat))] }
 { boxes := [some [AV.str y.w.a.nm, AV.int IntKind.i64 y.w.a.nx, AV.sl ((8 : Nat)) (fcsL y.w.a.l) Own.no, AV.str y.w.b.nm, AV.int IntKind.i64 y.w.b.nx, AV.sl ((8 : Nat)) (fcsL y.w.b.l) Own.no, AV.sl ((11 : Nat)) (pksL y.w.c) Own.no, AV.sl ((3 : Nat)) (bxsL y.w.r) Own.no, AV.sl ((8 : Nat)) (fcsL y.w.all) (Own.tok ((0 : Nat))), AV.sl ((8 : Nat)) (fcsL y.w.fresh) (Own.tok ((1 : Nat))), AV.bool y.w.bad]], live := [(y.w.all.length, (29 : Nat)), (y.w.fresh.length, (29 : Nat))] } ∧
 (Drain (ranO l) y.w ∧ y.w.c = [] ∧ y.i ≤ y.w.all.length) ∧ True) ∧
 ∀ (x : StD),
 Drain (ranO l) x.w ∧ x.w.c = [] ∧ x.i ≤ x.w.all.length →
 (decide ((↑x.i : Int) < (↑(fcsL x.w.all).length : Int)) = true →
 ((0 : Int) ≤ (↑x.i : Int) ∧ (↑x.i : Int) < (↑(fcsL x.w.all).length : Int)) ∧
 ∃ (s : List UInt8),
 ∃ (n : Int),
 takeAt PI ((26 : Nat)) (fcsL x.w.all) (↑x.i : Int).toNat ((0 : Nat)) =
 some (AV.agg [AV.str s, AV.int IntKind.i64 n]) ∧
 ∃ (n_2 : Int),
 CallIs
 (tbl
 [((7 : Nat), s7), ((16 : Nat), s22), ((21 : Nat), v21),
 ((22 : Nat), v22)]
 ((21 : Nat))
 [AV.sl ((8 : Nat)) (fcsL x.w.fresh) Own.no,
 AV.agg [AV.str s, AV.int IntKind.i64 n]])
 (AV.int IntKind.i64 n_2) [] ∧
 ((n_2 != (1 : Int)) = true →
 RetIs (AV.bool false) [] (AV.bool true, [])) ∧
 ((n_2 != (1 : Int)) = false →
 ∃ (y : StD),
 ValsAre
 [AV.ptr ((0 : Nat)) ((0 : Nat)),
 AV.int IntKind.i64
 (IntKind.i64.wrap ((↑x.i : Int) + (1 : Int)))]
 [AV.ptr ((0 : Nat)) ((0 : Nat)),
 AV.int IntKind.i64 (↑y.i : Int)] ∧
 StIs
 { boxes := [some [AV.str x.w.a.nm, AV.int IntKind.i64 x.w.a.nx, AV.sl ((8 : Nat)) (fcsL x.w.a.l) Own.no, AV.str x.w.b.nm, AV.int IntKind.i64 x.w.b.nx, AV.sl ((8 : Nat)) (fcsL x.w.b.l) Own.no, AV.sl ((11 : Nat)) (pksL x.w.c) Own.no, AV.sl ((3 : Nat)) (bxsL x.w.r) Own.no, AV.sl ((8 : Nat)) (fcsL x.w.all) (Own.tok ((0 : Nat))), AV.sl ((8 : Nat)) (fcsL x.w.fresh) (Own.tok ((1 : Nat))), AV.bool x.w.bad]], live := [(x.w.all.length, (29 : Nat)), (x.w.fresh.length, (29 : Nat))] }
 { boxes := [some [AV.str y.w.a.nm, AV.int IntKind.i64 y.w.a.nx, AV.sl ((8 : Nat)) (fcsL y.w.a.l) Own.no, AV.str y.w.b.nm, AV.int IntKind.i64 y.w.b.nx, AV.sl ((8 : Nat)) (fcsL y.w.b.l) Own.no, AV.sl ((11 : Nat)) (pksL y.w.c) Own.no, AV.sl ((3 : Nat)) (bxsL y.w.r) Own.no, AV.sl ((8 : Nat)) (fcsL y.w.all) (Own.tok ((0 : Nat))), AV.sl ((8 : Nat)) (fcsL y.w.fresh) (Own.tok ((1 : Nat))), AV.bool y.w.bad]], live := [(y.w.all.length, (29 : Nat)), (y.w.fresh.length, (29 : Nat))] } ∧
 (Drain (ranO l) y.w ∧
 y.w.c = [] ∧ y.i ≤ y.w.all.length) ∧
 y.w.all.length - y.i < x.w.all.length - x.i)) ∧
 (decide ((↑x.i : Int) < (↑(fcsL x.w.all).length : Int)) = false →
 (x.w.bad = true → RetIs (AV.bool false) [] (AV.bool true, [])) ∧
 (x.w.bad = false →
 (((↑(fcsL x.w.fresh).length : Int) == (↑(fcsL x.w.all).length : Int)) =
 true →
 ((0 : Int) ≤ (0 : Int) ∧ (0 : Int) < (2 : Int)) ∧
 (((↑(fcsL x.w.a.l).length : Int) == (0 : Int)) = true →
 ((0 : Int) ≤ (1 : Int) ∧ (1 : Int) < (2 : Int)) ∧
 (((↑(fcsL x.w.b.l).length : Int) == (0 : Int)) = true →
 RetIs (AV.bool true) [] (AV.bool true, [])) ∧
 (((↑(fcsL x.w.b.l).length : Int) == (0 : Int)) = false →
 RetIs (AV.bool false) [] (AV.bool true, []))) ∧
 (((↑(fcsL x.w.a.l).length : Int) == (0 : Int)) = false →
 RetIs (AV.bool false) [] (AV.bool true, []))) ∧
 (((↑(fcsL x.w.fresh).length : Int) ==
 (↑(fcsL x.w.all).length : Int)) =
 false →
 RetIs (AV.bool false) [] (AV.bool true, [])))))) ∧
 (decide ((↑x.i : Int) < (5000 : Int)) = false →
 (∃ (y : StD),
 ValsAre [AV.ptr ((0 : Nat)) ((0 : Nat)), AV.int IntKind.i64 (0 : Int)]
 [AV.ptr ((0 : Nat)) ((0 : Nat)), AV.int IntKind.i64 (↑y.i : Int)] ∧
 StIs
 { boxes := [some [AV.str x.w.a.nm, AV.int IntKind.i64 x.w.a.nx, AV.sl ((8 : Nat)) (fcsL x.w.a.l) Own.no, AV.str x.w.b.nm, AV.int IntKind.i64 x.w.b.nx, AV.sl ((8 : Nat)) (fcsL x.w.b.l) Own.no, AV.sl ((11 : Nat)) (pksL x.w.c) Own.no, AV.sl ((3 : Nat)) (bxsL x.w.r) Own.no, AV.sl ((8 : Nat)) (fcsL x.w.all) (Own.tok ((0 : Nat))), AV.sl ((8 : Nat)) (fcsL x.w.fresh) (Own.tok ((1 : Nat))), AV.bool x.w.bad]], live := [(x.w.all.length, (29 : Nat)), (x.w.fresh.length, (29 : Nat))] }
 { boxes := [some [AV.str y.w.a.nm, AV.int IntKind.i64 y.w.a.nx, AV.sl ((8 : Nat)) (fcsL y.w.a.l) Own.no, AV.str y.w.b.nm, AV.int IntKind.i64 y.w.b.nx, AV.sl ((8 : Nat)) (fcsL y.w.b.l) Own.no, AV.sl ((11 : Nat)) (pksL y.w.c) Own.no, AV.sl ((3 : Nat)) (bxsL y.w.r) Own.no, AV.sl ((8 : Nat)) (fcsL y.w.all) (Own.tok ((0 : Nat))), AV.sl ((8 : Nat)) (fcsL y.w.fresh) (Own.tok ((1 : Nat))), AV.bool y.w.bad]], live := [(y.w.all.length, (29 : Nat)), (y.w.fresh.length, (29 : Nat))] } ∧
 (Drain (ranO l) y.w ∧ y.w.c = [] ∧ y.i ≤ y.w.all.length) ∧ True) ∧
 ∀ (x : StD),
 Drain (ranO l) x.w ∧ x.w.c = [] ∧ x.i ≤ x.w.all.length →
 (decide ((↑x.i : Int) < (↑(fcsL x.w.all).length : Int)) = true →
 ((0 : Int) ≤ (↑x.i : Int) ∧ (↑x.i : Int) < (↑(fcsL x.w.all).length : Int)) ∧
 ∃ (s : List UInt8),
 ∃ (n : Int),
 takeAt PI ((26 : Nat)) (fcsL x.w.all) (↑x.i : Int).toNat ((0 : Nat)) =
 some (AV.agg [AV.str s, AV.int IntKind.i64 n]) ∧
 ∃ (n_2 : Int),
 CallIs
 (tbl
 [((7 : Nat), s7), ((16 : Nat), s22), ((21 : Nat), v21),
 ((22 : Nat), v22)]
 ((21 : Nat))
 [AV.sl ((8 : Nat)) (fcsL x.w.fresh) Own.no,
 AV.agg [AV.str s, AV.int IntKind.i64 n]])
 (AV.int IntKind.i64 n_2) [] ∧
 ((n_2 != (1 : Int)) = true →
 RetIs (AV.bool false) [] (AV.bool true, [])) ∧
 ((n_2 != (1 : Int)) = false →
 ∃ (y : StD),
 ValsAre
 [AV.ptr ((0 : Nat)) ((0 : Nat)),
 AV.int IntKind.i64
 (IntKind.i64.wrap ((↑x.i : Int) + (1 : Int)))]
 [AV.ptr ((0 : Nat)) ((0 : Nat)),
 AV.int IntKind.i64 (↑y.i : Int)] ∧
 StIs
 { boxes := [some [AV.str x.w.a.nm, AV.int IntKind.i64 x.w.a.nx, AV.sl ((8 : Nat)) (fcsL x.w.a.l) Own.no, AV.str x.w.b.nm, AV.int IntKind.i64 x.w.b.nx, AV.sl ((8 : Nat)) (fcsL x.w.b.l) Own.no, AV.sl ((11 : Nat)) (pksL x.w.c) Own.no, AV.sl ((3 : Nat)) (bxsL x.w.r) Own.no, AV.sl ((8 : Nat)) (fcsL x.w.all) (Own.tok ((0 : Nat))), AV.sl ((8 : Nat)) (fcsL x.w.fresh) (Own.tok ((1 : Nat))), AV.bool x.w.bad]], live := [(x.w.all.length, (29 : Nat)), (x.w.fresh.length, (29 : Nat))] }
 { boxes := [some [AV.str y.w.a.nm, AV.int IntKind.i64 y.w.a.nx, AV.sl ((8 : Nat)) (fcsL y.w.a.l) Own.no, AV.str y.w.b.nm, AV.int IntKind.i64 y.w.b.nx, AV.sl ((8 : Nat)) (fcsL y.w.b.l) Own.no, AV.sl ((11 : Nat)) (pksL y.w.c) Own.no, AV.sl ((3 : Nat)) (bxsL y.w.r) Own.no, AV.sl ((8 : Nat)) (fcsL y.w.all) (Own.tok ((0 : Nat))), AV.sl ((8 : Nat)) (fcsL y.w.fresh) (Own.tok ((1 : Nat))), AV.bool y.w.bad]], live := [(y.w.all.length, (29 : Nat)), (y.w.fresh.length, (29 : Nat))] } ∧
 (Drain (ranO l) y.w ∧ y.w.c = [] ∧ y.i ≤ y.w.all.length) ∧
 y.w.all.length - y.i < x.w.all.length - x.i)) ∧
 (decide ((↑x.i : Int) < (↑(fcsL x.w.all).length : Int)) = false →
 (x.w.bad = true → RetIs (AV.bool false) [] (AV.bool true, [])) ∧
 (x.w.bad = false →
 (((↑(fcsL x.w.fresh).length : Int) == (↑(fcsL x.w.all).length : Int)) =
 true →
 ((0 : Int) ≤ (0 : Int) ∧ (0 : Int) < (2 : Int)) ∧
 (((↑(fcsL x.w.a.l).length : Int) == (0 : Int)) = true →
 ((0 : Int) ≤ (1 : Int) ∧ (1 : Int) < (2 : Int)) ∧
 (((↑(fcsL x.w.b.l).length : Int) == (0 : Int)) = true →
 RetIs (AV.bool true) [] (AV.bool true, [])) ∧
 (((↑(fcsL x.w.b.l).length : Int) == (0 : Int)) = false →
 RetIs (AV.bool false) [] (AV.bool true, []))) ∧
 (((↑(fcsL x.w.a.l).length : Int) == (0 : Int)) = false →
 RetIs (AV.bool false) [] (AV.bool true, []))) ∧
 (((↑(fcsL x.w.fresh).length : Int) == (↑(fcsL x.w.all).length : Int)) =
 false →
 RetIs (AV.bool false) [] (AV.bool true, []))))))) ∧
 ∀ (x_1 : Nat),
 x_1 ≤ (1 : Nat) →
 some (AV.int IntKind.i64 (↑x : Int)) = some (AV.int IntKind.i64 (↑x_1 : Int)) →
 ((↑x_1 : Int) = (0 : Int) ∨ (↑x_1 : Int) = (1 : Int)) ∧
 ((↑x_1 : Int) = (0 : Int) →
 ((0 : Int) ≤ (0 : Int) ∧ (0 : Int) < (2 : Int)) ∧
 ∃ (es : List AV),
 CallIs
 (tbl [((7 : Nat), s7), ((16 : Nat), s22), ((21 : Nat), v21), ((22 : Nat), v22)]
 ((16 : Nat))
 [AV.agg
 [AV.str (wK (ranO l) x_1).a.nm, AV.int IntKind.i64 (wK (ranO l) x_1).a.nx,
 AV.sl ((8 : Nat)) (fcsL (wK (ranO l) x_1).a.l) Own.no]])
 (AV.sl ((11 : Nat)) es Own.no) [] ∧
 (∃ (y : StK),
 ValsAre
 [AV.ptr ((0 : Nat)) ((0 : Nat)), AV.int IntKind.i64 (0 : Int),
 AV.sl ((11 : Nat)) es Own.no, AV.int IntKind.i64 (0 : Int)]
 [AV.ptr ((0 : Nat)) ((0 : Nat)), AV.int IntKind.i64 (↑y.k : Int),
 AV.sl ((11 : Nat)) (pksL (openK (ranO l) y.k)) Own.no,
 AV.int IntKind.i64 (↑y.i : Int)] ∧
 StIs
 { boxes := [some [AV.str (wK (ranO l) x_1).a.nm, AV.int IntKind.i64 (wK (ranO l) x_1).a.nx, AV.sl ((8 : Nat)) (fcsL (wK (ranO l) x_1).a.l) Own.no, AV.str (wK (ranO l) x_1).b.nm, AV.int IntKind.i64 (wK (ranO l) x_1).b.nx, AV.sl ((8 : Nat)) (fcsL (wK (ranO l) x_1).b.l) Own.no, AV.sl ((11 : Nat)) (pksL (wK (ranO l) x_1).c) Own.no, AV.sl ((3 : Nat)) (bxsL (wK (ranO l) x_1).r) Own.no, AV.sl ((8 : Nat)) (fcsL (wK (ranO l) x_1).all) (Own.tok ((0 : Nat))), AV.sl ((8 : Nat)) (fcsL (wK (ranO l) x_1).fresh) (Own.tok ((1 : Nat))), AV.bool (wK (ranO l) x_1).bad]], live := [((wK (ranO l) x_1).all.length, (29 : Nat)), ((wK (ranO l) x_1).fresh.length, (29 : Nat))] }
 { boxes := [some [AV.str (wKI (ranO l) y.k y.i).a.nm, AV.int IntKind.i64 (wKI (ranO l) y.k y.i).a.nx, AV.sl ((8 : Nat)) (fcsL (wKI (ranO l) y.k y.i).a.l) Own.no, AV.str (wKI (ranO l) y.k y.i).b.nm, AV.int IntKind.i64 (wKI (ranO l) y.k y.i).b.nx, AV.sl ((8 : Nat)) (fcsL (wKI (ranO l) y.k y.i).b.l) Own.no, AV.sl ((11 : Nat)) (pksL (wKI (ranO l) y.k y.i).c) Own.no, AV.sl ((3 : Nat)) (bxsL (wKI (ranO l) y.k y.i).r) Own.no, AV.sl ((8 : Nat)) (fcsL (wKI (ranO l) y.k y.i).all) (Own.tok ((0 : Nat))), AV.sl ((8 : Nat)) (fcsL (wKI (ranO l) y.k y.i).fresh) (Own.tok ((1 : Nat))), AV.bool (wKI (ranO l) y.k y.i).bad]], live := [((wKI (ranO l) y.k y.i).all.length, (29 : Nat)), ((wKI (ranO l) y.k y.i).fresh.length, (29 : Nat))] } ∧
 (y.k ≤ (1 : Nat) ∧ y.i ≤ (openK (ranO l) y.k).length) ∧
 some (AV.int IntKind.i64 (0 : Int)) =
 some (AV.int IntKind.i64 (↑y.k : Int))) ∧
 ∀ (x_2 : StK),
 x_2.k ≤ (1 : Nat) ∧ x_2.i ≤ (openK (ranO l) x_2.k).length →
 some (AV.int IntKind.i64 (0 : Int)) = some (AV.int IntKind.i64 (↑x_2.k : Int)) →
 (decide ((↑x_2.i : Int) < (↑(pksL (openK (ranO l) x_2.k)).length : Int)) =
 true →
 ((0 : Int) ≤ (↑x_2.i : Int) ∧
 (↑x_2.i : Int) < (↑(pksL (openK (ranO l) x_2.k)).length : Int)) ∧
 ∃ (s : List UInt8),
 ∃ (b : Bool),
 ∃ (n : Int),
 ∃ (s_2 : List UInt8),
 ∃ (n_2 : Int),
 ∃ (n_3 : Int),
 ∃ (n_4 : Int),
 ∃ (s_3 : List UInt8),
 ∃ (s_4 : List UInt8),
 ∃ (n_5 : Int),
 ∃ (es : List AV),
 takeAt PI ((31 : Nat))
 (pksL (openK (ranO l) x_2.k))
 (↑x_2.i : Int).toNat ((0 : Nat)) =
 some
 (AV.agg
 [AV.str s, AV.bool b,
 AV.int IntKind.i64 n, AV.str s_2,
 AV.int IntKind.i64 n_2,
 AV.int IntKind.i64 n_3,
 AV.int IntKind.i64 n_4, AV.str s_3,
 AV.str s_4, AV.int IntKind.i64 n_5,
 AV.sl ((3 : Nat)) es Own.no]) ∧
 (RAsk
 [AV.str (wKI (ranO l) x_2.k x_2.i).a.nm,
 AV.int IntKind.i64
 (wKI (ranO l) x_2.k x_2.i).a.nx,
 AV.sl ((8 : Nat))
 (fcsL (wKI (ranO l) x_2.k x_2.i).a.l)
 Own.no,
 AV.str (wKI (ranO l) x_2.k x_2.i).b.nm,
 AV.int IntKind.i64
 (wKI (ranO l) x_2.k x_2.i).b.nx,
 AV.sl ((8 : Nat))
 (fcsL (wKI (ranO l) x_2.k x_2.i).b.l)
 Own.no,
 AV.sl ((11 : Nat))
 (pksL (wKI (ranO l) x_2.k x_2.i).c)
 Own.no,
 AV.sl ((3 : Nat))
 (bxsL (wKI (ranO l) x_2.k x_2.i).r)
 Own.no,
 AV.sl ((8 : Nat))
 (fcsL (wKI (ranO l) x_2.k x_2.i).all)
 (Own.tok ((0 : Nat))),
 AV.sl ((8 : Nat))
 (fcsL
 (wKI (ranO l) x_2.k x_2.i).fresh)
 (Own.tok ((1 : Nat))),
 AV.bool (wKI (ranO l) x_2.k x_2.i).bad]
 (wKI (ranO l) x_2.k x_2.i).all.length
 (wKI (ranO l) x_2.k x_2.i).fresh.length ∧
 PAsk
 [AV.str s, AV.bool b,
 AV.int IntKind.i64 n, AV.str s_2,
 AV.int IntKind.i64 n_2,
 AV.int IntKind.i64 n_3,
 AV.int IntKind.i64 n_4, AV.str s_3,
 AV.str s_4, AV.int IntKind.i64 n_5,
 AV.sl ((3 : Nat)) es Own.no]) ∧
 ∃ (s_5 : List UInt8),
 ∃ (n_6 : Int),
 ∃ (es_6 : List AV),
 ∃ (s_6 : List UInt8),
 ∃ (n_7 : Int),
 ∃ (es_7 : List AV),
 ∃ (es_8 : List AV),
 ∃ (es_9 : List AV),
 ∃ (es_10 : List AV),
 ∃ (es_11 : List AV),
 ∃ (b_1 : Bool),
 OutIs
 (keptWA
 (keptRecv
 [AV.str
 (wKI
 (ranO
 l)
 x_2.k
 x_2.i).a.nm,
 AV.int
 IntKind.i64
 (wKI
 (ranO
 l)
 x_2.k
 x_2.i).a.nx,
 AV.sl
 ((8 : Nat))
 (fcsL
 (wKI
 (ranO
 l)
 x_2.k
 x_2.i).a.l)
 Own.no,
 AV.str
 (wKI
 (ranO
 l)
 x_2.k
 x_2.i).b.nm,
 AV.int
 IntKind.i64
 (wKI
 (ranO
 l)
 x_2.k
 x_2.i).b.nx,
 AV.sl
 ((8 : Nat))
 (fcsL
 (wKI
 (ranO
 l)
 x_2.k
 x_2.i).b.l)
 Own.no,
 AV.sl
 ((11 : Nat))
 (pksL
 (wKI
 (ranO
 l)
 x_2.k
 x_2.i).c)
 Own.no,
 AV.sl
 ((3 : Nat))
 (bxsL
 (wKI
 (ranO
 l)
 x_2.k
 x_2.i).r)
 Own.no,
 AV.sl
 ((8 : Nat))
 (fcsL
 (wKI
 (ranO
 l)
 x_2.k
 x_2.i).all)
 (Own.tok
 (nat_lit
 0)),
 AV.sl
 ((8 : Nat))
 (fcsL
 (wKI
 (ranO
 l)
 x_2.k
 x_2.i).fresh)
 (Own.tok
 (nat_lit
 1)),
 AV.bool
 (wKI
 (ranO l)
 x_2.k
 x_2.i).bad]
 [AV.str s,
 AV.bool b,
 AV.int
 IntKind.i64
 n,
 AV.str s_2,
 AV.int
 IntKind.i64
 n_2,
 AV.int
 IntKind.i64
 n_3,
 AV.int
 IntKind.i64
 n_4,
 AV.str s_3,
 AV.str s_4,
 AV.int
 IntKind.i64
 n_5,
 AV.sl
 ((3 : Nat))
 es Own.no]))
 (AV.agg
 [AV.str s_5,
 AV.int
 IntKind.i64
 n_6,
 AV.sl
 ((8 : Nat))
 es_6 Own.no,
 AV.str s_6,
 AV.int
 IntKind.i64
 n_7,
 AV.sl
 ((8 : Nat))
 es_7 Own.no,
 AV.sl
 ((11 : Nat))
 es_8 Own.no,
 AV.sl
 ((3 : Nat))
 es_9 Own.no,
 AV.sl
 ((8 : Nat))
 es_10
 (Own.tok
 (nat_lit
 0)),
 AV.sl
 ((8 : Nat))
 es_11
 (Own.tok
 (nat_lit
 1)),
 AV.bool b_1]) ∧
 ∃ (y : StK),
 ValsAre
 [AV.ptr
 ((0 : Nat))
 ((0 : Nat)),
 AV.int
 IntKind.i64
 (↑x_2.k :
 Int),
 AV.sl
 ((11 : Nat))
 (pksL
 (openK
 (ranO l)
 x_2.k))
 Own.no,
 AV.int
 IntKind.i64
 (IntKind.i64.wrap
 ((↑x_2.i :
 Int) +
 (1 :
 Int)))]
 [AV.ptr
 ((0 : Nat))
 ((0 : Nat)),
 AV.int
 IntKind.i64
 (↑y.k :
 Int),
 AV.sl
 ((11 : Nat))
 (pksL
 (openK
 (ranO l)
 y.k))
 Own.no,
 AV.int
 IntKind.i64
 (↑y.i :
 Int)] ∧
 StIs
 { boxes := [some [AV.str s_5, AV.int IntKind.i64 n_6, AV.sl (nat_lit 8) es_6 Own.no, AV.str s_6, AV.int IntKind.i64 n_7, AV.sl (nat_lit 8) es_7 Own.no, AV.sl (nat_lit 11) es_8 Own.no, AV.sl (nat_lit 3) es_9 Own.no, AV.sl (nat_lit 8) es_10 (Own.tok (nat_lit 0)), AV.sl (nat_lit 8) es_11 (Own.tok (nat_lit 1)), AV.bool b_1]], live := [((keptRecv [AV.str (wKI (ranO l) x_2.k x_2.i).a.nm, AV.int IntKind.i64 (wKI (ranO l) x_2.k x_2.i).a.nx, AV.sl (nat_lit 8) (fcsL (wKI (ranO l) x_2.k x_2.i).a.l) Own.no, AV.str (wKI (ranO l) x_2.k x_2.i).b.nm, AV.int IntKind.i64 (wKI (ranO l) x_2.k x_2.i).b.nx, AV.sl (nat_lit 8) (fcsL (wKI (ranO l) x_2.k x_2.i).b.l) Own.no, AV.sl (nat_lit 11) (pksL (wKI (ranO l) x_2.k x_2.i).c) Own.no, AV.sl (nat_lit 3) (bxsL (wKI (ranO l) x_2.k x_2.i).r) Own.no, AV.sl (nat_lit 8) (fcsL (wKI (ranO l) x_2.k x_2.i).all) (Own.tok (nat_lit 0)), AV.sl (nat_lit 8) (fcsL (wKI (ranO l) x_2.k x_2.i).fresh) (Own.tok (nat_lit 1)), AV.bool (wKI (ranO l) x_2.k x_2.i).bad] [AV.str s, AV.bool b, AV.int IntKind.i64 n, AV.str s_2, AV.int IntKind.i64 n_2, AV.int IntKind.i64 n_3, AV.int IntKind.i64 n_4, AV.str s_3, AV.str s_4, AV.int IntKind.i64 n_5, AV.sl (nat_lit 3) es Own.no]).all.length, nat_lit 29), ((keptRecv [AV.str (wKI (ranO l) x_2.k x_2.i).a.nm, AV.int IntKind.i64 (wKI (ranO l) x_2.k x_2.i).a.nx, AV.sl (nat_lit 8) (fcsL (wKI (ranO l) x_2.k x_2.i).a.l) Own.no, AV.str (wKI (ranO l) x_2.k x_2.i).b.nm, AV.int IntKind.i64 (wKI (ranO l) x_2.k x_2.i).b.nx, AV.sl (nat_lit 8) (fcsL (wKI (ranO l) x_2.k x_2.i).b.l) Own.no, AV.sl (nat_lit 11) (pksL (wKI (ranO l) x_2.k x_2.i).c) Own.no, AV.sl (nat_lit 3) (bxsL (wKI (ranO l) x_2.k x_2.i).r) Own.no, AV.sl (nat_lit 8) (fcsL (wKI (ranO l) x_2.k x_2.i).all) (Own.tok (nat_lit 0)), AV.sl (nat_lit 8) (fcsL (wKI (ranO l) x_2.k x_2.i).fresh) (Own.tok (nat_lit 1)), AV.bool (wKI (ranO l) x_2.k x_2.i).bad] [AV.str s, AV.bool b, AV.int IntKind.i64 n, AV.str s_2, AV.int IntKind.i64 n_2, AV.int IntKind.i64 n_3, AV.int IntKind.i64 n_4, AV.str s_3, AV.str s_4, AV.int IntKind.i64 n_5, AV.sl (nat_lit 3) es Own.no]).fresh.length, nat_lit 29)] }
 { boxes := [some [AV.str (wKI (ranO l) y.k y.i).a.nm, AV.int IntKind.i64 (wKI (ranO l) y.k y.i).a.nx, AV.sl (nat_lit 8) (fcsL (wKI (ranO l) y.k y.i).a.l) Own.no, AV.str (wKI (ranO l) y.k y.i).b.nm, AV.int IntKind.i64 (wKI (ranO l) y.k y.i).b.nx, AV.sl (nat_lit 8) (fcsL (wKI (ranO l) y.k y.i).b.l) Own.no, AV.sl (nat_lit 11) (pksL (wKI (ranO l) y.k y.i).c) Own.no, AV.sl (nat_lit 3) (bxsL (wKI (ranO l) y.k y.i).r) Own.no, AV.sl (nat_lit 8) (fcsL (wKI (ranO l) y.k y.i).all) (Own.tok (nat_lit 0)), AV.sl (nat_lit 8) (fcsL (wKI (ranO l) y.k y.i).fresh) (Own.tok (nat_lit 1)), AV.bool (wKI (ranO l) y.k y.i).bad]], live := [((wKI (ranO l) y.k y.i).all.length, nat_lit 29), ((wKI (ranO l) y.k y.i).fresh.length, nat_lit 29)] } ∧
 (y.k ≤
 (1 :
 Nat) ∧
 y.i ≤
 (openK
 (ranO
 l)
 y.k).length) ∧
 some
 (AV.int
 IntKind.i64
 (0 :
 Int)) =
 some
 (AV.int
 IntKind.i64
 (↑y.k :
 Int)) ∧
 (openK
 (ranO
 l)
 y.k).length -
 y.i <
 (openK
 (ranO
 l)
 x_2.k).length -
 x_2.i) ∧
 (decide ((↑x_2.i : Int) < (↑(pksL (openK (ranO l) x_2.k)).length : Int)) =
 false →
 ∃ (y : Nat),
 ValsAre
 [AV.ptr ((0 : Nat)) ((0 : Nat)),
 AV.int IntKind.i64
 (IntKind.i64.wrap ((↑x_2.k : Int) + (1 : Int)))]
 [AV.ptr ((0 : Nat)) ((0 : Nat)), AV.int IntKind.i64 (↑y : Int)] ∧
 StIs
 { boxes := [some [AV.str (wKI (ranO l) x_2.k x_2.i).a.nm, AV.int IntKind.i64 (wKI (ranO l) x_2.k x_2.i).a.nx, AV.sl ((8 : Nat)) (fcsL (wKI (ranO l) x_2.k x_2.i).a.l) Own.no, AV.str (wKI (ranO l) x_2.k x_2.i).b.nm, AV.int IntKind.i64 (wKI (ranO l) x_2.k x_2.i).b.nx, AV.sl ((8 : Nat)) (fcsL (wKI (ranO l) x_2.k x_2.i).b.l) Own.no, AV.sl ((11 : Nat)) (pksL (wKI (ranO l) x_2.k x_2.i).c) Own.no, AV.sl ((3 : Nat)) (bxsL (wKI (ranO l) x_2.k x_2.i).r) Own.no, AV.sl ((8 : Nat)) (fcsL (wKI (ranO l) x_2.k x_2.i).all) (Own.tok ((0 : Nat))), AV.sl ((8 : Nat)) (fcsL (wKI (ranO l) x_2.k x_2.i).fresh) (Own.tok ((1 : Nat))), AV.bool (wKI (ranO l) x_2.k x_2.i).bad]], live := [((wKI (ranO l) x_2.k x_2.i).all.length, (29 : Nat)), ((wKI (ranO l) x_2.k x_2.i).fresh.length, (29 : Nat))] }
 { boxes := [some [AV.str (wK (ranO l) y).a.nm, AV.int IntKind.i64 (wK (ranO l) y).a.nx, AV.sl ((8 : Nat)) (fcsL (wK (ranO l) y).a.l) Own.no, AV.str (wK (ranO l) y).b.nm, AV.int IntKind.i64 (wK (ranO l) y).b.nx, AV.sl ((8 : Nat)) (fcsL (wK (ranO l) y).b.l) Own.no, AV.sl ((11 : Nat)) (pksL (wK (ranO l) y).c) Own.no, AV.sl ((3 : Nat)) (bxsL (wK (ranO l) y).r) Own.no, AV.sl ((8 : Nat)) (fcsL (wK (ranO l) y).all) (Own.tok ((0 : Nat))), AV.sl ((8 : Nat)) (fcsL (wK (ranO l) y).fresh) (Own.tok ((1 : Nat))), AV.bool (wK (ranO l) y).bad]], live := [((wK (ranO l) y).all.length, (29 : Nat)), ((wK (ranO l) y).fresh.length, (29 : Nat))] } ∧
 y ≤ (2 : Nat) ∧ (2 : Nat) - y < (2 : Nat) - x)) ∧
 ((↑x_1 : Int) = (1 : Int) →
 ((0 : Int) ≤ (1 : Int) ∧ (1 : Int) < (2 : Int)) ∧
 ∃ (es : List AV),
 CallIs
 (tbl [((7 : Nat), s7), ((16 : Nat), s22), ((21 : Nat), v21), ((22 : Nat), v22)]
 ((16 : Nat))
 [AV.agg
 [AV.str (wK (ranO l) x_1).b.nm, AV.int IntKind.i64 (wK (ranO l) x_1).b.nx,
 AV.sl ((8 : Nat)) (fcsL (wK (ranO l) x_1).b.l) Own.no]])
 (AV.sl ((11 : Nat)) es Own.no) [] ∧
 (∃ (y : StK),
 ValsAre
 [AV.ptr ((0 : Nat)) ((0 : Nat)), AV.int IntKind.i64 (1 : Int),
 AV.sl ((11 : Nat)) es Own.no, AV.int IntKind.i64 (0 : Int)]
 [AV.ptr ((0 : Nat)) ((0 : Nat)), AV.int IntKind.i64 (↑y.k : Int),
 AV.sl ((11 : Nat)) (pksL (openK (ranO l) y.k)) Own.no,
 AV.int IntKind.i64 (↑y.i : Int)] ∧
 StIs
 { boxes := [some [AV.str (wK (ranO l) x_1).a.nm, AV.int IntKind.i64 (wK (ranO l) x_1).a.nx, AV.sl ((8 : Nat)) (fcsL (wK (ranO l) x_1).a.l) Own.no, AV.str (wK (ranO l) x_1).b.nm, AV.int IntKind.i64 (wK (ranO l) x_1).b.nx, AV.sl ((8 : Nat)) (fcsL (wK (ranO l) x_1).b.l) Own.no, AV.sl ((11 : Nat)) (pksL (wK (ranO l) x_1).c) Own.no, AV.sl ((3 : Nat)) (bxsL (wK (ranO l) x_1).r) Own.no, AV.sl ((8 : Nat)) (fcsL (wK (ranO l) x_1).all) (Own.tok ((0 : Nat))), AV.sl ((8 : Nat)) (fcsL (wK (ranO l) x_1).fresh) (Own.tok ((1 : Nat))), AV.bool (wK (ranO l) x_1).bad]], live := [((wK (ranO l) x_1).all.length, (29 : Nat)), ((wK (ranO l) x_1).fresh.length, (29 : Nat))] }
 { boxes := [some [AV.str (wKI (ranO l) y.k y.i).a.nm, AV.int IntKind.i64 (wKI (ranO l) y.k y.i).a.nx, AV.sl ((8 : Nat)) (fcsL (wKI (ranO l) y.k y.i).a.l) Own.no, AV.str (wKI (ranO l) y.k y.i).b.nm, AV.int IntKind.i64 (wKI (ranO l) y.k y.i).b.nx, AV.sl ((8 : Nat)) (fcsL (wKI (ranO l) y.k y.i).b.l) Own.no, AV.sl ((11 : Nat)) (pksL (wKI (ranO l) y.k y.i).c) Own.no, AV.sl ((3 : Nat)) (bxsL (wKI (ranO l) y.k y.i).r) Own.no, AV.sl ((8 : Nat)) (fcsL (wKI (ranO l) y.k y.i).all) (Own.tok ((0 : Nat))), AV.sl ((8 : Nat)) (fcsL (wKI (ranO l) y.k y.i).fresh) (Own.tok ((1 : Nat))), AV.bool (wKI (ranO l) y.k y.i).bad]], live := [((wKI (ranO l) y.k y.i).all.length, (29 : Nat)), ((wKI (ranO l) y.k y.i).fresh.length, (29 : Nat))] } ∧
 (y.k ≤ (1 : Nat) ∧ y.i ≤ (openK (ranO l) y.k).length) ∧
 some (AV.int IntKind.i64 (1 : Int)) =
 some (AV.int IntKind.i64 (↑y.k : Int))) ∧
 ∀ (x_2 : StK),
 x_2.k ≤ (1 : Nat) ∧ x_2.i ≤ (openK (ranO l) x_2.k).length →
 some (AV.int IntKind.i64 (1 : Int)) = some (AV.int IntKind.i64 (↑x_2.k : Int)) →
 (decide ((↑x_2.i : Int) < (↑(pksL (openK (ranO l) x_2.k)).length : Int)) =
 true →
 ((0 : Int) ≤ (↑x_2.i : Int) ∧
 (↑x_2.i : Int) < (↑(pksL (openK (ranO l) x_2.k)).length : Int)) ∧
 ∃ (s : List UInt8),
 ∃ (b : Bool),
 ∃ (n : Int),
 ∃ (s_2 : List UInt8),
 ∃ (n_2 : Int),
 ∃ (n_3 : Int),
 ∃ (n_4 : Int),
 ∃ (s_3 : List UInt8),
 ∃ (s_4 : List UInt8),
 ∃ (n_5 : Int),
 ∃ (es : List AV),
 takeAt PI ((31 : Nat))
 (pksL (openK (ranO l) x_2.k))
 (↑x_2.i : Int).toNat ((0 : Nat)) =
 some
 (AV.agg
 [AV.str s, AV.bool b,
 AV.int IntKind.i64 n, AV.str s_2,
 AV.int IntKind.i64 n_2,
 AV.int IntKind.i64 n_3,
 AV.int IntKind.i64 n_4, AV.str s_3,
 AV.str s_4, AV.int IntKind.i64 n_5,
 AV.sl ((3 : Nat)) es Own.no]) ∧
 (RAsk
 [AV.str (wKI (ranO l) x_2.k x_2.i).a.nm,
 AV.int IntKind.i64
 (wKI (ranO l) x_2.k x_2.i).a.nx,
 AV.sl ((8 : Nat))
 (fcsL (wKI (ranO l) x_2.k x_2.i).a.l)
 Own.no,
 AV.str (wKI (ranO l) x_2.k x_2.i).b.nm,
 AV.int IntKind.i64
 (wKI (ranO l) x_2.k x_2.i).b.nx,
 AV.sl ((8 : Nat))
 (fcsL (wKI (ranO l) x_2.k x_2.i).b.l)
 Own.no,
 AV.sl ((11 : Nat))
 (pksL (wKI (ranO l) x_2.k x_2.i).c)
 Own.no,
 AV.sl ((3 : Nat))
 (bxsL (wKI (ranO l) x_2.k x_2.i).r)
 Own.no,
 AV.sl ((8 : Nat))
 (fcsL (wKI (ranO l) x_2.k x_2.i).all)
 (Own.tok ((0 : Nat))),
 AV.sl ((8 : Nat))
 (fcsL
 (wKI (ranO l) x_2.k x_2.i).fresh)
 (Own.tok ((1 : Nat))),
 AV.bool (wKI (ranO l) x_2.k x_2.i).bad]
 (wKI (ranO l) x_2.k x_2.i).all.length
 (wKI (ranO l) x_2.k x_2.i).fresh.length ∧
 PAsk
 [AV.str s, AV.bool b,
 AV.int IntKind.i64 n, AV.str s_2,
 AV.int IntKind.i64 n_2,
 AV.int IntKind.i64 n_3,
 AV.int IntKind.i64 n_4, AV.str s_3,
 AV.str s_4, AV.int IntKind.i64 n_5,
 AV.sl ((3 : Nat)) es Own.no]) ∧
 ∃ (s_5 : List UInt8),
 ∃ (n_6 : Int),
 ∃ (es_6 : List AV),
 ∃ (s_6 : List UInt8),
 ∃ (n_7 : Int),
 ∃ (es_7 : List AV),
 ∃ (es_8 : List AV),
 ∃ (es_9 : List AV),
 ∃ (es_10 : List AV),
 ∃ (es_11 : List AV),
 ∃ (b_1 : Bool),
 OutIs
 (keptWA
 (keptRecv
 [AV.str
 (wKI
 (ranO
 l)
 x_2.k
 x_2.i).a.nm,
 AV.int
 IntKind.i64
 (wKI
 (ranO
 l)
 x_2.k
 x_2.i).a.nx,
 AV.sl
 ((8 : Nat))
 (fcsL
 (wKI
 (ranO
 l)
 x_2.k
 x_2.i).a.l)
 Own.no,
 AV.str
 (wKI
 (ranO
 l)
 x_2.k
 x_2.i).b.nm,
 AV.int
 IntKind.i64
 (wKI
 (ranO
 l)
 x_2.k
 x_2.i).b.nx,
 AV.sl
 ((8 : Nat))
 (fcsL
 (wKI
 (ranO
 l)
 x_2.k
 x_2.i).b.l)
 Own.no,
 AV.sl
 ((11 : Nat))
 (pksL
 (wKI
 (ranO
 l)
 x_2.k
 x_2.i).c)
 Own.no,
 AV.sl
 ((3 : Nat))
 (bxsL
 (wKI
 (ranO
 l)
 x_2.k
 x_2.i).r)
 Own.no,
 AV.sl
 ((8 : Nat))
 (fcsL
 (wKI
 (ranO
 l)
 x_2.k
 x_2.i).all)
 (Own.tok
 (nat_lit
 0)),
 AV.sl
 ((8 : Nat))
 (fcsL
 (wKI
 (ranO
 l)
 x_2.k
 x_2.i).fresh)
 (Own.tok
 (nat_lit
 1)),
 AV.bool
 (wKI
 (ranO l)
 x_2.k
 x_2.i).bad]
 [AV.str s,
 AV.bool b,
 AV.int
 IntKind.i64
 n,
 AV.str s_2,
 AV.int
 IntKind.i64
 n_2,
 AV.int
 IntKind.i64
 n_3,
 AV.int
 IntKind.i64
 n_4,
 AV.str s_3,
 AV.str s_4,
 AV.int
 IntKind.i64
 n_5,
 AV.sl
 ((3 : Nat))
 es Own.no]))
 (AV.agg
 [AV.str s_5,
 AV.int
 IntKind.i64
 n_6,
 AV.sl
 ((8 : Nat))
 es_6 Own.no,
 AV.str s_6,
 AV.int
 IntKind.i64
 n_7,
 AV.sl
 ((8 : Nat))
 es_7 Own.no,
 AV.sl
 ((11 : Nat))
 es_8 Own.no,
 AV.sl
 ((3 : Nat))
 es_9 Own.no,
 AV.sl
 ((8 : Nat))
 es_10
 (Own.tok
 (nat_lit
 0)),
 AV.sl
 ((8 : Nat))
 es_11
 (Own.tok
 (nat_lit
 1)),
 AV.bool b_1]) ∧
 ∃ (y : StK),
 ValsAre
 [AV.ptr
 ((0 : Nat))
 ((0 : Nat)),
 AV.int
 IntKind.i64
 (↑x_2.k :
 Int),
 AV.sl
 ((11 : Nat))
 (pksL
 (openK
 (ranO l)
 x_2.k))
 Own.no,
 AV.int
 IntKind.i64
 (IntKind.i64.wrap
 ((↑x_2.i :
 Int) +
 (1 :
 Int)))]
 [AV.ptr
 ((0 : Nat))
 ((0 : Nat)),
 AV.int
 IntKind.i64
 (↑y.k :
 Int),
 AV.sl
 ((11 : Nat))
 (pksL
 (openK
 (ranO l)
 y.k))
 Own.no,
 AV.int
 IntKind.i64
 (↑y.i :
 Int)] ∧
 StIs
 { boxes := [some [AV.str s_5, AV.int IntKind.i64 n_6, AV.sl (nat_lit 8) es_6 Own.no, AV.str s_6, AV.int IntKind.i64 n_7, AV.sl (nat_lit 8) es_7 Own.no, AV.sl (nat_lit 11) es_8 Own.no, AV.sl (nat_lit 3) es_9 Own.no, AV.sl (nat_lit 8) es_10 (Own.tok (nat_lit 0)), AV.sl (nat_lit 8) es_11 (Own.tok (nat_lit 1)), AV.bool b_1]], live := [((keptRecv [AV.str (wKI (ranO l) x_2.k x_2.i).a.nm, AV.int IntKind.i64 (wKI (ranO l) x_2.k x_2.i).a.nx, AV.sl (nat_lit 8) (fcsL (wKI (ranO l) x_2.k x_2.i).a.l) Own.no, AV.str (wKI (ranO l) x_2.k x_2.i).b.nm, AV.int IntKind.i64 (wKI (ranO l) x_2.k x_2.i).b.nx, AV.sl (nat_lit 8) (fcsL (wKI (ranO l) x_2.k x_2.i).b.l) Own.no, AV.sl (nat_lit 11) (pksL (wKI (ranO l) x_2.k x_2.i).c) Own.no, AV.sl (nat_lit 3) (bxsL (wKI (ranO l) x_2.k x_2.i).r) Own.no, AV.sl (nat_lit 8) (fcsL (wKI (ranO l) x_2.k x_2.i).all) (Own.tok (nat_lit 0)), AV.sl (nat_lit 8) (fcsL (wKI (ranO l) x_2.k x_2.i).fresh) (Own.tok (nat_lit 1)), AV.bool (wKI (ranO l) x_2.k x_2.i).bad] [AV.str s, AV.bool b, AV.int IntKind.i64 n, AV.str s_2, AV.int IntKind.i64 n_2, AV.int IntKind.i64 n_3, AV.int IntKind.i64 n_4, AV.str s_3, AV.str s_4, AV.int IntKind.i64 n_5, AV.sl (nat_lit 3) es Own.no]).all.length, nat_lit 29), ((keptRecv [AV.str (wKI (ranO l) x_2.k x_2.i).a.nm, AV.int IntKind.i64 (wKI (ranO l) x_2.k x_2.i).a.nx, AV.sl (nat_lit 8) (fcsL (wKI (ranO l) x_2.k x_2.i).a.l) Own.no, AV.str (wKI (ranO l) x_2.k x_2.i).b.nm, AV.int IntKind.i64 (wKI (ranO l) x_2.k x_2.i).b.nx, AV.sl (nat_lit 8) (fcsL (wKI (ranO l) x_2.k x_2.i).b.l) Own.no, AV.sl (nat_lit 11) (pksL (wKI (ranO l) x_2.k x_2.i).c) Own.no, AV.sl (nat_lit 3) (bxsL (wKI (ranO l) x_2.k x_2.i).r) Own.no, AV.sl (nat_lit 8) (fcsL (wKI (ranO l) x_2.k x_2.i).all) (Own.tok (nat_lit 0)), AV.sl (nat_lit 8) (fcsL (wKI (ranO l) x_2.k x_2.i).fresh) (Own.tok (nat_lit 1)), AV.bool (wKI (ranO l) x_2.k x_2.i).bad] [AV.str s, AV.bool b, AV.int IntKind.i64 n, AV.str s_2, AV.int IntKind.i64 n_2, AV.int IntKind.i64 n_3, AV.int IntKind.i64 n_4, AV.str s_3, AV.str s_4, AV.int IntKind.i64 n_5, AV.sl (nat_lit 3) es Own.no]).fresh.length, nat_lit 29)] }
 { boxes := [some [AV.str (wKI (ranO l) y.k y.i).a.nm, AV.int IntKind.i64 (wKI (ranO l) y.k y.i).a.nx, AV.sl (nat_lit 8) (fcsL (wKI (ranO l) y.k y.i).a.l) Own.no, AV.str (wKI (ranO l) y.k y.i).b.nm, AV.int IntKind.i64 (wKI (ranO l) y.k y.i).b.nx, AV.sl (nat_lit 8) (fcsL (wKI (ranO l) y.k y.i).b.l) Own.no, AV.sl (nat_lit 11) (pksL (wKI (ranO l) y.k y.i).c) Own.no, AV.sl (nat_lit 3) (bxsL (wKI (ranO l) y.k y.i).r) Own.no, AV.sl (nat_lit 8) (fcsL (wKI (ranO l) y.k y.i).all) (Own.tok (nat_lit 0)), AV.sl (nat_lit 8) (fcsL (wKI (ranO l) y.k y.i).fresh) (Own.tok (nat_lit 1)), AV.bool (wKI (ranO l) y.k y.i).bad]], live := [((wKI (ranO l) y.k y.i).all.length, nat_lit 29), ((wKI (ranO l) y.k y.i).fresh.length, nat_lit 29)] } ∧
 (y.k ≤
 (1 :
 Nat) ∧
 y.i ≤
 (openK
 (ranO
 l)
 y.k).length) ∧
 some
 (AV.int
 IntKind.i64
 (1 :
 Int)) =
 some
 (AV.int
 IntKind.i64
 (↑y.k :
 Int)) ∧
 (openK
 (ranO
 l)
 y.k).length -
 y.i <
 (openK
 (ranO
 l)
 x_2.k).length -
 x_2.i) ∧
 (decide ((↑x_2.i : Int) < (↑(pksL (openK (ranO l) x_2.k)).length : Int)) =
 false →
 ∃ (y : Nat),
 ValsAre
 [AV.ptr ((0 : Nat)) ((0 : Nat)),
 AV.int IntKind.i64
 (IntKind.i64.wrap ((↑x_2.k : Int) + (1 : Int)))]
 [AV.ptr ((0 : Nat)) ((0 : Nat)), AV.int IntKind.i64 (↑y : Int)] ∧
 StIs
 { boxes := [some [AV.str (wKI (ranO l) x_2.k x_2.i).a.nm, AV.int IntKind.i64 (wKI (ranO l) x_2.k x_2.i).a.nx, AV.sl ((8 : Nat)) (fcsL (wKI (ranO l) x_2.k x_2.i).a.l) Own.no, AV.str (wKI (ranO l) x_2.k x_2.i).b.nm, AV.int IntKind.i64 (wKI (ranO l) x_2.k x_2.i).b.nx, AV.sl ((8 : Nat)) (fcsL (wKI (ranO l) x_2.k x_2.i).b.l) Own.no, AV.sl ((11 : Nat)) (pksL (wKI (ranO l) x_2.k x_2.i).c) Own.no, AV.sl ((3 : Nat)) (bxsL (wKI (ranO l) x_2.k x_2.i).r) Own.no, AV.sl ((8 : Nat)) (fcsL (wKI (ranO l) x_2.k x_2.i).all) (Own.tok ((0 : Nat))), AV.sl ((8 : Nat)) (fcsL (wKI (ranO l) x_2.k x_2.i).fresh) (Own.tok ((1 : Nat))), AV.bool (wKI (ranO l) x_2.k x_2.i).bad]], live := [((wKI (ranO l) x_2.k x_2.i).all.length, (29 : Nat)), ((wKI (ranO l) x_2.k x_2.i).fresh.length, (29 : Nat))] }
 { boxes := [some [AV.str (wK (ranO l) y).a.nm, AV.int IntKind.i64 (wK (ranO l) y).a.nx, AV.sl ((8 : Nat)) (fcsL (wK (ranO l) y).a.l) Own.no, AV.str (wK (ranO l) y).b.nm, AV.int IntKind.i64 (wK (ranO l) y).b.nx, AV.sl ((8 : Nat)) (fcsL (wK (ranO l) y).b.l) Own.no, AV.sl ((11 : Nat)) (pksL (wK (ranO l) y).c) Own.no, AV.sl ((3 : Nat)) (bxsL (wK (ranO l) y).r) Own.no, AV.sl ((8 : Nat)) (fcsL (wK (ranO l) y).all) (Own.tok ((0 : Nat))), AV.sl ((8 : Nat)) (fcsL (wK (ranO l) y).fresh) (Own.tok ((1 : Nat))), AV.bool (wK (ranO l) y).bad]], live := [((wK (ranO l) y).all.length, (29 : Nat)), ((wK (ranO l) y).fresh.length, (29 : Nat))] } ∧
 y ≤ (2 : Nat) ∧ (2 : Nat) - y < (2 : Nat) - x))))) ∧
      (b = false → RetIs (AV.bool false) [] (AV.bool true, []))) := by kernel_rfl
end Go.Abs
