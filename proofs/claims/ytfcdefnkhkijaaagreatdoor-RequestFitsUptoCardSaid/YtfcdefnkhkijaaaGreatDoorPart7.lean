/- Own texts, part 7. -/
import Derived.Test.YtfcdefnkhkijaaaGreatDoorPart6

namespace Go.Abs
open Go.Proofs
theorem w11 (m : Int) (s : Spec) (bs : List UInt8) (ts : List Tk) (pb : List Pb) (e : Int) (r : AV) : (tlaxW PQ idMk (GQ m) (XP ts pb e) (tbl [(36, s), (46, s46)]) (itbl []) fsN (JP m idMk s ts pb e) (gP ts e) 11 [bytesA bs] (r, [])) =
(CallIs (tbl [((36 : Nat), s), ((46 : Nat), s46)] ((36 : Nat)) [AV.sl ((1 : Nat)) (bytesL bs) Own.no])
    (AV.tup [AV.sl ((3 : Nat)) (toksL ts) Own.no, AV.sl ((2 : Nat)) (pbsL pb) Own.no, AV.int IntKind.i64 e]) [] ∧
  ((e != (0 : Int)) = true →
      RetLax
        (AV.tup
 [AV.agg [AV.str [], AV.sl ((0 : Nat)) [] Own.nil, AV.sl ((0 : Nat)) [] Own.nil, AV.int IntKind.i64 (0 : Int), AV.int IntKind.i64 (0 : Int)],
 AV.int IntKind.i64 (0 : Int), AV.int IntKind.i64 e])
        (r, [])) ∧
    ((e != (0 : Int)) = false →
      (decide ((↑(pbsL pb).length : Int) > (0 : Int)) = true →
 ((0 : Int) ≤ (0 : Int) ∧ (0 : Int) < (↑(pbsL pb).length : Int)) ∧
 ∃ (n : Int),
 takeAt PQ ((3 : Nat)) (pbsL pb) ((0 : Nat)) ((0 : Nat)) = some (AV.int IntKind.i64 n) ∧
 ((0 : Int) ≤ (0 : Int) ∧ (0 : Int) < (↑(pbsL pb).length : Int)) ∧
 ∃ (n_1 : Int),
 takeAt PQ ((28 : Nat)) (pbsL pb) ((0 : Nat)) ((1 : Nat)) = some (AV.int IntKind.i64 n_1) ∧
 RetLax
 (AV.tup
 [AV.agg
 [AV.str [], AV.sl ((0 : Nat)) [] Own.nil, AV.sl ((0 : Nat)) [] Own.nil, AV.int IntKind.i64 (0 : Int),
 AV.int IntKind.i64 (0 : Int)],
 AV.int IntKind.i64 n, AV.int IntKind.i64 n_1])
 (r, [])) ∧
        (decide ((↑(pbsL pb).length : Int) > (0 : Int)) = false →
 (((↑(toksL ts).length : Int) == (0 : Int)) = true →
 RetLax
 (AV.tup
 [AV.agg [AV.str [], AV.sl ((0 : Nat)) [] Own.nil, AV.sl ((0 : Nat)) [] Own.nil, AV.int IntKind.i64 (0 : Int), AV.int IntKind.i64 (0 : Int)],
 AV.int IntKind.i64 (0 : Int), AV.int IntKind.i64 (90 : Int)])
 (r, [])) ∧
 (((↑(toksL ts).length : Int) == (0 : Int)) = false →
 (TokIn (toksL ts) ∧
 (true = true ∧ true = true ∧ [AV.int IntKind.i64 e].all (AV.p1 (5 : Nat)) = true) ∧
 true = true ∧ true = true ∧ [AV.int IntKind.i64 e].all (AV.p1 (6 : Nat)) = true) ∧
 ((hdT (toksL ts)).k = (1 : Int) ∧ ((hdT (toksL ts)).s == [(111 : UInt8), (102 : UInt8)]) = true →
 ((TokIn (List.drop ((1 : Nat)) (toksL ts)) ∧ true = true ∧ true = true ∧ [AV.int IntKind.i64 e].all (AV.p1 (5 : Nat)) = true) ∧
 ((hdT (List.drop ((1 : Nat)) (toksL ts))).k = (1 : Int) ∧ accS ((40 : Nat)) [] (hdT (List.drop ((1 : Nat)) (toksL ts))).s = true →
 ∃ (y : P2),
 ValsAre
 [AV.ptr ((0 : Nat)) ((0 : Nat)), AV.ptr ((1 : Nat)) ((0 : Nat)), AV.ptr ((2 : Nat)) ((0 : Nat)),
 AV.ptr ((4 : Nat)) ((0 : Nat))]
 [AV.ptr ((0 : Nat)) ((0 : Nat)), AV.ptr ((1 : Nat)) ((0 : Nat)), AV.ptr ((2 : Nat)) ((0 : Nat)),
 AV.ptr ((4 : Nat)) ((0 : Nat))] ∧
 StIs
 { boxes := [some [AV.str (hdT (List.drop ((1 : Nat)) (toksL ts))).s, AV.sl ((0 : Nat)) [] Own.nil, AV.sl ((0 : Nat)) [] Own.nil, AV.int IntKind.i64 (0 : Int), AV.int IntKind.i64 (0 : Int)], some [AV.int IntKind.i64 (0 : Int)], some [AV.int IntKind.i64 e], some [AV.sl ((3 : Nat)) (if (1 : Int) = (6 : Int) then List.drop ((1 : Nat)) (toksL ts) else List.drop ((1 : Nat)) (List.drop ((1 : Nat)) (toksL ts))) Own.no], some [AV.ptr ((3 : Nat)) ((0 : Nat))]], live := [] }
 { boxes := [some [AV.str y.r.entity, AV.sl ((0 : Nat)) [] Own.nil, AV.sl ((0 : Nat)) [] Own.nil, AV.int IntKind.i64 (0 : Int), AV.int IntKind.i64 (0 : Int)], some [AV.int IntKind.i64 (0 : Int)], some [AV.int IntKind.i64 e], some [AV.sl ((3 : Nat)) (toksL y.ts) Own.no], some [AV.ptr ((3 : Nat)) ((0 : Nat))]], live := [] } ∧
 (GoodT y.ts ∧
 parseTk ts = k12 { entity := y.r.entity, feats := [], labels := [], seed := (0 : Int), permille := (0 : Int) } y.ts ∧
 y.ts.length ≤ ts.length) ∧
 True) ∧
 (((hdT (List.drop ((1 : Nat)) (toksL ts))).k = (1 : Int) ∧ accS ((40 : Nat)) [] (hdT (List.drop ((1 : Nat)) (toksL ts))).s = true →
 False) →
 Option.all litOk
 (some
 (Value.iface ((88 : Nat))
 (Value.agg #[Value.int IntKind.i64 (hdT (List.drop ((1 : Nat)) (toksL ts))).a, Value.int IntKind.i64 (90 : Int)]))) =
 true ∧
 (true = true →
 RetLax
 (AV.tup
 [AV.agg
 [AV.str [], AV.sl ((0 : Nat)) [] Own.nil, AV.sl ((0 : Nat)) [] Own.nil, AV.int IntKind.i64 (0 : Int),
 AV.int IntKind.i64 (0 : Int)],
 AV.int IntKind.i64 (hdT (List.drop ((1 : Nat)) (toksL ts))).a, AV.int IntKind.i64 (90 : Int)])
 (r, [])) ∧
 (true = false →
 RetLax
 (AV.tup
 [AV.agg
 [AV.str [], AV.sl ((0 : Nat)) [] Own.nil, AV.sl ((0 : Nat)) [] Own.nil, AV.int IntKind.i64 (0 : Int),
 AV.int IntKind.i64 (0 : Int)],
 AV.int IntKind.i64 (0 : Int), AV.int IntKind.i64 e])
 (r, []))) ∧
 True) ∧
 ∀ (x : P2),
 GoodT x.ts ∧
 parseTk ts = k12 { entity := x.r.entity, feats := [], labels := [], seed := (0 : Int), permille := (0 : Int) } x.ts ∧
 x.ts.length ≤ ts.length →
 True →
 ((TokIn (toksL x.ts) ∧
 ([AV.str x.r.entity, AV.sl ((0 : Nat)) [] Own.nil, AV.sl ((0 : Nat)) [] Own.nil, AV.int IntKind.i64 (0 : Int),
 AV.int IntKind.i64 (0 : Int)].all
 (AV.p1 (5 : Nat)) =
 true ∧
 true = true ∧ [AV.int IntKind.i64 e].all (AV.p1 (5 : Nat)) = true) ∧
 [AV.str x.r.entity, AV.sl ((0 : Nat)) [] Own.nil, AV.sl ((0 : Nat)) [] Own.nil, AV.int IntKind.i64 (0 : Int),
 AV.int IntKind.i64 (0 : Int)].all
 (AV.p1 (6 : Nat)) =
 true ∧
 true = true ∧ [AV.int IntKind.i64 e].all (AV.p1 (6 : Nat)) = true) ∧
 ((hdT (toksL x.ts)).k = (1 : Int) ∧
 ((hdT (toksL x.ts)).s == [(116 : UInt8), (97 : UInt8), (107 : UInt8), (101 : UInt8)]) = true →
 ∃ (y : P2),
 ValsAre
 [AV.ptr ((0 : Nat)) ((0 : Nat)), AV.ptr ((1 : Nat)) ((0 : Nat)), AV.ptr ((2 : Nat)) ((0 : Nat)),
 AV.ptr ((4 : Nat)) ((0 : Nat))]
 [AV.ptr ((0 : Nat)) ((0 : Nat)), AV.ptr ((1 : Nat)) ((0 : Nat)), AV.ptr ((2 : Nat)) ((0 : Nat)),
 AV.ptr ((4 : Nat)) ((0 : Nat))] ∧
 StIs
 { boxes := [some [AV.str x.r.entity, AV.sl ((1 : Nat)) [] (Own.tok (0 : Nat)), AV.sl ((0 : Nat)) [] Own.nil, AV.int IntKind.i64 (0 : Int), AV.int IntKind.i64 (0 : Int)], some [AV.int IntKind.i64 (0 : Int)], some [AV.int IntKind.i64 e], some [AV.sl ((3 : Nat)) (List.drop ((1 : Nat)) (toksL x.ts)) Own.no], some [AV.ptr ((3 : Nat)) ((0 : Nat))]], live := [((0 : Nat), (9 : Nat))] }
 { boxes := [some [AV.str y.r.entity, AV.sl ((1 : Nat)) (strsL y.r.feats) (Own.tok ((0 : Nat))), AV.sl ((0 : Nat)) [] Own.nil, AV.int IntKind.i64 y.r.seed, AV.int IntKind.i64 y.r.permille], some [AV.int IntKind.i64 (0 : Int)], some [AV.int IntKind.i64 e], some [AV.sl ((3 : Nat)) (toksL y.ts) Own.no], some [AV.ptr ((3 : Nat)) ((0 : Nat))]], live := [(y.r.feats.length, (9 : Nat))] } ∧
 (GoodT y.ts ∧ parseTk ts = k13 y.r y.ts ∧ y.r.feats = [] ∧ y.r.labels = [] ∧ y.ts.length ≤ ts.length) ∧ True) ∧
 (((hdT (toksL x.ts)).k = (1 : Int) ∧
 ((hdT (toksL x.ts)).s == [(116 : UInt8), (97 : UInt8), (107 : UInt8), (101 : UInt8)]) = true →
 False) →
 Option.all litOk
 (some
 (Value.iface ((88 : Nat))
 (Value.agg #[Value.int IntKind.i64 (hdT (toksL x.ts)).a, Value.int IntKind.i64 (90 : Int)]))) =
 true ∧
 (true = true →
 RetLax
 (AV.tup
 [AV.agg
 [AV.str [], AV.sl ((0 : Nat)) [] Own.nil, AV.sl ((0 : Nat)) [] Own.nil, AV.int IntKind.i64 (0 : Int),
 AV.int IntKind.i64 (0 : Int)],
 AV.int IntKind.i64 (hdT (toksL x.ts)).a, AV.int IntKind.i64 (90 : Int)])
 (r, [])) ∧
 (true = false →
 RetLax
 (AV.tup
 [AV.agg
 [AV.str x.r.entity, AV.sl ((0 : Nat)) [] Own.nil, AV.sl ((0 : Nat)) [] Own.nil,
 AV.int IntKind.i64 (0 : Int), AV.int IntKind.i64 (0 : Int)],
 AV.int IntKind.i64 (0 : Int), AV.int IntKind.i64 e])
 (r, []))) ∧
 True) ∧
 ∀ (x : P2),
 GoodT x.ts ∧ parseTk ts = k13 x.r x.ts ∧ x.r.feats = [] ∧ x.r.labels = [] ∧ x.ts.length ≤ ts.length →
 True →
 ((TokIn (toksL x.ts) ∧
 (∃ (l : List (List UInt8)), strsL x.r.feats = strsL l) ∧
 x.r.feats.length = (strsL x.r.feats).length ∧
 (strsL x.r.feats).length ≤ (1000000 : Nat) ∧ true = true ∧ [AV.int IntKind.i64 e].all (AV.p1 (5 : Nat)) = true) ∧
 ((hdT (toksL x.ts)).k = (1 : Int) ∧ nameR (hdT (toksL x.ts)).s = true →
 (∃ (y : P2),
 ValsAre
 [AV.ptr ((3 : Nat)) ((0 : Nat)),
 AV.fn ((42 : Nat)) [AV.ptr ((0 : Nat)) ((0 : Nat)), AV.ptr ((4 : Nat)) ((0 : Nat))]]
 [AV.ptr ((3 : Nat)) ((0 : Nat)),
 AV.fn ((42 : Nat)) [AV.ptr ((0 : Nat)) ((0 : Nat)), AV.ptr ((4 : Nat)) ((0 : Nat))]] ∧
 StIs
 { boxes := [some [AV.str x.r.entity, AV.sl ((1 : Nat)) (strsL x.r.feats ++ [AV.str (hdT (toksL x.ts)).s]) (Own.tok ((0 : Nat))), AV.sl ((0 : Nat)) [] Own.nil, AV.int IntKind.i64 x.r.seed, AV.int IntKind.i64 x.r.permille], some [AV.int IntKind.i64 (0 : Int)], some [AV.int IntKind.i64 e], some [AV.sl ((3 : Nat)) (List.drop ((1 : Nat)) (toksL x.ts)) Own.no], some [AV.ptr ((3 : Nat)) ((0 : Nat))]], live := [((strsL x.r.feats).length + (1 : Nat), (9 : Nat))] }
 { boxes := [some [AV.str y.r.entity, AV.sl ((1 : Nat)) (strsL y.r.feats) (Own.tok ((0 : Nat))), AV.sl ((0 : Nat)) [] Own.nil, AV.int IntKind.i64 y.r.seed, AV.int IntKind.i64 y.r.permille], some [AV.int IntKind.i64 (0 : Int)], some [AV.int IntKind.i64 e], some [AV.sl ((3 : Nat)) (toksL y.ts) Own.no], some [AV.ptr ((3 : Nat)) ((0 : Nat))]], live := [(y.r.feats.length, (9 : Nat))] } ∧
 (GoodT y.ts ∧
 parseTk ts = kMf y.r y.ts y.r.feats ∧ y.r.labels = [] ∧ y.r.feats.length + y.ts.length ≤ ts.length) ∧
 True) ∧
 ∀ (x : P2),
 GoodT x.ts ∧
 parseTk ts = kMf x.r x.ts x.r.feats ∧ x.r.labels = [] ∧ x.r.feats.length + x.ts.length ≤ ts.length →
 ((0 : Int) ≤ (0 : Int) ∧ (0 : Int) < (↑(toksL x.ts).length : Int)) ∧
 ∃ (n : Int),
 takeAt PQ ((3 : Nat)) (toksL x.ts) ((0 : Nat)) ((0 : Nat)) = some (AV.int IntKind.i64 n) ∧
 ((n == (5 : Int)) = true →
 ((0 : Int) ≤ (0 : Int) ∧ (0 : Int) < (↑(toksL x.ts).length : Int)) ∧
 ∃ (s : List UInt8),
 takeAt PQ ((9 : Nat)) (toksL x.ts) ((0 : Nat)) ((1 : Nat)) = some (AV.str s) ∧
 ((s == [(44 : UInt8)]) = true →
 (0 : Int) ≤ (1 : Int) ∧
 ((1 : Nat) ≤ (toksL x.ts).length ∧ (toksL x.ts).length ≤ (toksL x.ts).length) ∧
 ((3 : Nat) = (3 : Nat) ∨ toksL x.ts = []) ∧
 (TokIn (List.drop ((1 : Nat)) (List.take (toksL x.ts).length (toksL x.ts))) ∧
 (∃ (l : List (List UInt8)), strsL x.r.feats = strsL l) ∧
 x.r.feats.length = (strsL x.r.feats).length ∧
 (strsL x.r.feats).length ≤ (1000000 : Nat) ∧
 true = true ∧ [AV.int IntKind.i64 e].all (AV.p1 (5 : Nat)) = true) ∧
 ((hdT (List.drop ((1 : Nat)) (List.take (toksL x.ts).length (toksL x.ts)))).k =
 (1 : Int) ∧
 nameR
 (hdT
 (List.drop ((1 : Nat))
 (List.take (toksL x.ts).length (toksL x.ts)))).s =
 true →
 ∃ (y : P2),
 ValsAre
 [AV.ptr ((3 : Nat)) ((0 : Nat)),
 AV.fn ((42 : Nat))
 [AV.ptr ((0 : Nat)) ((0 : Nat)), AV.ptr ((4 : Nat)) ((0 : Nat))]]
 [AV.ptr ((3 : Nat)) ((0 : Nat)),
 AV.fn ((42 : Nat))
 [AV.ptr ((0 : Nat)) ((0 : Nat)), AV.ptr ((4 : Nat)) ((0 : Nat))]] ∧
 StIs
 { boxes := [some [AV.str x.r.entity, AV.sl ((1 : Nat)) (strsL x.r.feats ++ [AV.str (hdT (List.drop ((1 : Nat)) (List.take (toksL x.ts).length (toksL x.ts)))).s]) (Own.tok ((0 : Nat))), AV.sl ((0 : Nat)) [] Own.nil, AV.int IntKind.i64 x.r.seed, AV.int IntKind.i64 x.r.permille], some [AV.int IntKind.i64 (0 : Int)], some [AV.int IntKind.i64 e], some [AV.sl ((3 : Nat)) (List.drop ((1 : Nat)) (List.drop ((1 : Nat)) (List.take (toksL x.ts).length (toksL x.ts)))) Own.no], some [AV.ptr ((3 : Nat)) ((0 : Nat))]], live := [((strsL x.r.feats).length + (1 : Nat), (9 : Nat))] }
 { boxes := [some [AV.str y.r.entity, AV.sl ((1 : Nat)) (strsL y.r.feats) (Own.tok ((0 : Nat))), AV.sl ((0 : Nat)) [] Own.nil, AV.int IntKind.i64 y.r.seed, AV.int IntKind.i64 y.r.permille], some [AV.int IntKind.i64 (0 : Int)], some [AV.int IntKind.i64 e], some [AV.sl ((3 : Nat)) (toksL y.ts) Own.no], some [AV.ptr ((3 : Nat)) ((0 : Nat))]], live := [(y.r.feats.length, (9 : Nat))] } ∧
 (GoodT y.ts ∧
 parseTk ts = kMf y.r y.ts y.r.feats ∧
 y.r.labels = [] ∧ y.r.feats.length + y.ts.length ≤ ts.length) ∧
 y.ts.length < x.ts.length) ∧
 (((hdT (List.drop ((1 : Nat)) (List.take (toksL x.ts).length (toksL x.ts)))).k =
 (1 : Int) ∧
 nameR
 (hdT
 (List.drop ((1 : Nat))
 (List.take (toksL x.ts).length (toksL x.ts)))).s =
 true →
 False) →
 Option.all litOk
 (some
 (Value.iface ((88 : Nat))
 (Value.agg
 #[Value.int IntKind.i64
 (hdT
 (List.drop ((1 : Nat))
 (List.take (toksL x.ts).length (toksL x.ts)))).a,
 Value.int IntKind.i64 (90 : Int)]))) =
 true ∧
 (true = true →
 RetLax
 (AV.tup
 [AV.agg
 [AV.str [], AV.sl ((0 : Nat)) [] Own.nil,
 AV.sl ((0 : Nat)) [] Own.nil, AV.int IntKind.i64 (0 : Int),
 AV.int IntKind.i64 (0 : Int)],
 AV.int IntKind.i64
 (hdT
 (List.drop ((1 : Nat))
 (List.take (toksL x.ts).length (toksL x.ts)))).a,
 AV.int IntKind.i64 (90 : Int)])
 (r, [])) ∧
 (true = false →
 RetLax
 (AV.tup
 [AV.agg
 [AV.str x.r.entity,
 AV.sl ((1 : Nat)) (strsL x.r.feats) (Own.tok ((0 : Nat))),
 AV.sl ((0 : Nat)) [] Own.nil, AV.int IntKind.i64 x.r.seed,
 AV.int IntKind.i64 x.r.permille],
 AV.int IntKind.i64 (0 : Int), AV.int IntKind.i64 e])
 (r, []))) ∧
 True) ∧
 ((s == [(44 : UInt8)]) = false →
 ∃ (y : P2),
 ValsAre
 [AV.ptr ((0 : Nat)) ((0 : Nat)), AV.ptr ((1 : Nat)) ((0 : Nat)),
 AV.ptr ((2 : Nat)) ((0 : Nat)), AV.ptr ((4 : Nat)) ((0 : Nat))]
 [AV.ptr ((0 : Nat)) ((0 : Nat)), AV.ptr ((1 : Nat)) ((0 : Nat)),
 AV.ptr ((2 : Nat)) ((0 : Nat)), AV.ptr ((4 : Nat)) ((0 : Nat))] ∧
 StIs
 { boxes := [some [AV.str x.r.entity, AV.sl ((1 : Nat)) (strsL x.r.feats) (Own.tok ((0 : Nat))), AV.sl ((0 : Nat)) [] Own.nil, AV.int IntKind.i64 x.r.seed, AV.int IntKind.i64 x.r.permille], some [AV.int IntKind.i64 (0 : Int)], some [AV.int IntKind.i64 e], some [AV.sl ((3 : Nat)) (toksL x.ts) Own.no], some [AV.ptr ((3 : Nat)) ((0 : Nat))]], live := [(x.r.feats.length, (9 : Nat))] }
 { boxes := [some [AV.str y.r.entity, AV.sl ((1 : Nat)) (strsL y.r.feats) (Own.tok ((0 : Nat))), AV.sl ((0 : Nat)) [] Own.nil, AV.int IntKind.i64 y.r.seed, AV.int IntKind.i64 y.r.permille], some [AV.int IntKind.i64 (0 : Int)], some [AV.int IntKind.i64 e], some [AV.sl ((3 : Nat)) (toksL y.ts) Own.no], some [AV.ptr ((3 : Nat)) ((0 : Nat))]], live := [(y.r.feats.length, (9 : Nat))] } ∧
 (GoodT y.ts ∧
 parseTk ts = k14 y.r y.ts ∧ y.r.labels = [] ∧ y.ts.length ≤ ts.length) ∧
 True)) ∧
 ((n == (5 : Int)) = false →
 ∃ (y : P2),
 ValsAre
 [AV.ptr ((0 : Nat)) ((0 : Nat)), AV.ptr ((1 : Nat)) ((0 : Nat)),
 AV.ptr ((2 : Nat)) ((0 : Nat)), AV.ptr ((4 : Nat)) ((0 : Nat))]
 [AV.ptr ((0 : Nat)) ((0 : Nat)), AV.ptr ((1 : Nat)) ((0 : Nat)),
 AV.ptr ((2 : Nat)) ((0 : Nat)), AV.ptr ((4 : Nat)) ((0 : Nat))] ∧
 StIs
 { boxes := [some [AV.str x.r.entity, AV.sl ((1 : Nat)) (strsL x.r.feats) (Own.tok ((0 : Nat))), AV.sl ((0 : Nat)) [] Own.nil, AV.int IntKind.i64 x.r.seed, AV.int IntKind.i64 x.r.permille], some [AV.int IntKind.i64 (0 : Int)], some [AV.int IntKind.i64 e], some [AV.sl ((3 : Nat)) (toksL x.ts) Own.no], some [AV.ptr ((3 : Nat)) ((0 : Nat))]], live := [(x.r.feats.length, (9 : Nat))] }
 { boxes := [some [AV.str y.r.entity, AV.sl ((1 : Nat)) (strsL y.r.feats) (Own.tok ((0 : Nat))), AV.sl ((0 : Nat)) [] Own.nil, AV.int IntKind.i64 y.r.seed, AV.int IntKind.i64 y.r.permille], some [AV.int IntKind.i64 (0 : Int)], some [AV.int IntKind.i64 e], some [AV.sl ((3 : Nat)) (toksL y.ts) Own.no], some [AV.ptr ((3 : Nat)) ((0 : Nat))]], live := [(y.r.feats.length, (9 : Nat))] } ∧
 (GoodT y.ts ∧ parseTk ts = k14 y.r y.ts ∧ y.r.labels = [] ∧ y.ts.length ≤ ts.length) ∧
 True)) ∧
 (((hdT (toksL x.ts)).k = (1 : Int) ∧ nameR (hdT (toksL x.ts)).s = true → False) →
 Option.all litOk
 (some
 (Value.iface ((88 : Nat))
 (Value.agg #[Value.int IntKind.i64 (hdT (toksL x.ts)).a, Value.int IntKind.i64 (90 : Int)]))) =
 true ∧
 (true = true →
 RetLax
 (AV.tup
 [AV.agg
 [AV.str [], AV.sl ((0 : Nat)) [] Own.nil, AV.sl ((0 : Nat)) [] Own.nil,
 AV.int IntKind.i64 (0 : Int), AV.int IntKind.i64 (0 : Int)],
 AV.int IntKind.i64 (hdT (toksL x.ts)).a, AV.int IntKind.i64 (90 : Int)])
 (r, [])) ∧
 (true = false →
 RetLax
 (AV.tup
 [AV.agg
 [AV.str x.r.entity, AV.sl ((1 : Nat)) (strsL x.r.feats) (Own.tok ((0 : Nat))),
 AV.sl ((0 : Nat)) [] Own.nil, AV.int IntKind.i64 x.r.seed, AV.int IntKind.i64 x.r.permille],
 AV.int IntKind.i64 (0 : Int), AV.int IntKind.i64 e])
 (r, []))) ∧
 True) ∧
 ∀ (x : P2),
 GoodT x.ts ∧ parseTk ts = k14 x.r x.ts ∧ x.r.labels = [] ∧ x.ts.length ≤ ts.length →
 True →
 (TokIn (toksL x.ts) ∧
 ([AV.str x.r.entity, AV.sl ((1 : Nat)) (strsL x.r.feats) (Own.tok ((0 : Nat))), AV.sl ((0 : Nat)) [] Own.nil,
 AV.int IntKind.i64 x.r.seed, AV.int IntKind.i64 x.r.permille].all
 (AV.p1 (5 : Nat)) =
 true ∧
 true = true ∧ [AV.int IntKind.i64 e].all (AV.p1 (5 : Nat)) = true) ∧
 [AV.str x.r.entity, AV.sl ((1 : Nat)) (strsL x.r.feats) (Own.tok ((0 : Nat))), AV.sl ((0 : Nat)) [] Own.nil,
 AV.int IntKind.i64 x.r.seed, AV.int IntKind.i64 x.r.permille].all
 (AV.p1 (6 : Nat)) =
 true ∧
 true = true ∧ [AV.int IntKind.i64 e].all (AV.p1 (6 : Nat)) = true) ∧
 ((hdT (toksL x.ts)).k = (1 : Int) ∧
 ((hdT (toksL x.ts)).s == [(115 : UInt8), (101 : UInt8), (101 : UInt8), (100 : UInt8)]) = true →
 ((TokIn (List.drop ((1 : Nat)) (toksL x.ts)) ∧
 IntIn (List.drop ((1 : Nat)) (toksL x.ts)) ∧
 [AV.str x.r.entity, AV.sl ((1 : Nat)) (strsL x.r.feats) (Own.tok ((0 : Nat))),
 AV.sl ((0 : Nat)) [] Own.nil, AV.int IntKind.i64 x.r.seed,
 AV.int IntKind.i64 x.r.permille].all
 (AV.p1 (5 : Nat)) =
 true ∧
 true = true ∧ [AV.int IntKind.i64 e].all (AV.p1 (5 : Nat)) = true) ∧
 ((hdT (List.drop ((1 : Nat)) (toksL x.ts))).k = (2 : Int) →
 ∃ (y : P2),
 ValsAre
 [AV.ptr ((0 : Nat)) ((0 : Nat)), AV.ptr ((1 : Nat)) ((0 : Nat)), AV.ptr ((2 : Nat)) ((0 : Nat)),
 AV.ptr ((4 : Nat)) ((0 : Nat))]
 [AV.ptr ((0 : Nat)) ((0 : Nat)), AV.ptr ((1 : Nat)) ((0 : Nat)), AV.ptr ((2 : Nat)) ((0 : Nat)),
 AV.ptr ((4 : Nat)) ((0 : Nat))] ∧
 StIs
 { boxes := [some [AV.str x.r.entity, AV.sl ((1 : Nat)) (strsL x.r.feats) (Own.tok ((0 : Nat))), AV.sl ((0 : Nat)) [] Own.nil, AV.int IntKind.i64 (numV (hdT (List.drop ((1 : Nat)) (toksL x.ts))).s), AV.int IntKind.i64 x.r.permille], some [AV.int IntKind.i64 (0 : Int)], some [AV.int IntKind.i64 e], some [AV.sl ((3 : Nat)) (List.drop ((1 : Nat)) (List.drop ((1 : Nat)) (toksL x.ts))) Own.no], some [AV.ptr ((3 : Nat)) ((0 : Nat))]], live := [(x.r.feats.length, (9 : Nat))] }
 { boxes := [some [AV.str y.r.entity, AV.sl ((1 : Nat)) (strsL y.r.feats) (Own.tok ((0 : Nat))), AV.sl ((0 : Nat)) [] Own.nil, AV.int IntKind.i64 y.r.seed, AV.int IntKind.i64 y.r.permille], some [AV.int IntKind.i64 (0 : Int)], some [AV.int IntKind.i64 e], some [AV.sl ((3 : Nat)) (toksL y.ts) Own.no], some [AV.ptr ((3 : Nat)) ((0 : Nat))]], live := [(y.r.feats.length, (9 : Nat))] } ∧
 (GoodT y.ts ∧ parseTk ts = k16 y.r y.ts ∧ y.r.labels = [] ∧ y.ts.length ≤ ts.length) ∧ True) ∧
 (((hdT (List.drop ((1 : Nat)) (toksL x.ts))).k = (2 : Int) → False) →
 Option.all litOk
 (some
 (Value.iface ((88 : Nat))
 (Value.agg
 #[Value.int IntKind.i64 (hdT (List.drop ((1 : Nat)) (toksL x.ts))).a,
 Value.int IntKind.i64 (90 : Int)]))) =
 true ∧
 (true = true →
 RetLax
 (AV.tup
 [AV.agg
 [AV.str [], AV.sl ((0 : Nat)) [] Own.nil, AV.sl ((0 : Nat)) [] Own.nil,
 AV.int IntKind.i64 (0 : Int), AV.int IntKind.i64 (0 : Int)],
 AV.int IntKind.i64 (hdT (List.drop ((1 : Nat)) (toksL x.ts))).a,
 AV.int IntKind.i64 (90 : Int)])
 (r, [])) ∧
 (true = false →
 RetLax
 (AV.tup
 [AV.agg
 [AV.str x.r.entity, AV.sl ((1 : Nat)) (strsL x.r.feats) (Own.tok ((0 : Nat))),
 AV.sl ((0 : Nat)) [] Own.nil, AV.int IntKind.i64 x.r.seed,
 AV.int IntKind.i64 x.r.permille],
 AV.int IntKind.i64 (0 : Int), AV.int IntKind.i64 e])
 (r, []))) ∧
 True) ∧
 ∀ (x : P2),
 GoodT x.ts ∧ parseTk ts = k16 x.r x.ts ∧ x.r.labels = [] ∧ x.ts.length ≤ ts.length →
 True →
 (TokIn (toksL x.ts) ∧
 ([AV.str x.r.entity, AV.sl ((1 : Nat)) (strsL x.r.feats) (Own.tok ((0 : Nat))),
 AV.sl ((0 : Nat)) [] Own.nil, AV.int IntKind.i64 x.r.seed,
 AV.int IntKind.i64 x.r.permille].all
 (AV.p1 (5 : Nat)) =
 true ∧
 true = true ∧ [AV.int IntKind.i64 e].all (AV.p1 (5 : Nat)) = true) ∧
 [AV.str x.r.entity, AV.sl ((1 : Nat)) (strsL x.r.feats) (Own.tok ((0 : Nat))),
 AV.sl ((0 : Nat)) [] Own.nil, AV.int IntKind.i64 x.r.seed,
 AV.int IntKind.i64 x.r.permille].all
 (AV.p1 (6 : Nat)) =
 true ∧
 true = true ∧ [AV.int IntKind.i64 e].all (AV.p1 (6 : Nat)) = true) ∧
 ((hdT (toksL x.ts)).k = (1 : Int) ∧
 ((hdT (toksL x.ts)).s == [(107 : UInt8), (101 : UInt8), (101 : UInt8), (112 : UInt8)]) =
 true →
 ((TokIn (List.drop ((1 : Nat)) (toksL x.ts)) ∧
 IntIn (List.drop ((1 : Nat)) (toksL x.ts)) ∧
 [AV.str x.r.entity, AV.sl ((1 : Nat)) (strsL x.r.feats) (Own.tok ((0 : Nat))),
 AV.sl ((0 : Nat)) [] Own.nil, AV.int IntKind.i64 x.r.seed,
 AV.int IntKind.i64 x.r.permille].all
 (AV.p1 (5 : Nat)) =
 true ∧
 true = true ∧ [AV.int IntKind.i64 e].all (AV.p1 (5 : Nat)) = true) ∧
 ((hdT (List.drop ((1 : Nat)) (toksL x.ts))).k = (2 : Int) →
 ∃ (y : P2),
 ValsAre
 [AV.ptr ((0 : Nat)) ((0 : Nat)), AV.ptr ((1 : Nat)) ((0 : Nat)),
 AV.ptr ((2 : Nat)) ((0 : Nat)), AV.ptr ((4 : Nat)) ((0 : Nat))]
 [AV.ptr ((0 : Nat)) ((0 : Nat)), AV.ptr ((1 : Nat)) ((0 : Nat)),
 AV.ptr ((2 : Nat)) ((0 : Nat)), AV.ptr ((4 : Nat)) ((0 : Nat))] ∧
 StIs
 { boxes := [some [AV.str x.r.entity, AV.sl ((1 : Nat)) (strsL x.r.feats) (Own.tok ((0 : Nat))), AV.sl ((3 : Nat)) [] (Own.tok (1 : Nat)), AV.int IntKind.i64 x.r.seed, AV.int IntKind.i64 (numV (hdT (List.drop ((1 : Nat)) (toksL x.ts))).s)], some [AV.int IntKind.i64 (0 : Int)], some [AV.int IntKind.i64 e], some [AV.sl ((3 : Nat)) (List.drop ((1 : Nat)) (List.drop ((1 : Nat)) (toksL x.ts))) Own.no], some [AV.ptr ((3 : Nat)) ((0 : Nat))]], live := [(x.r.feats.length, (9 : Nat)), ((0 : Nat), (65 : Nat))] }
 { boxes := [some [AV.str y.r.entity, AV.sl ((1 : Nat)) (strsL y.r.feats) (Own.tok ((0 : Nat))), AV.sl ((3 : Nat)) (lbsL y.r.labels) (Own.tok ((1 : Nat))), AV.int IntKind.i64 y.r.seed, AV.int IntKind.i64 y.r.permille], some [AV.int IntKind.i64 (0 : Int)], some [AV.int IntKind.i64 e], some [AV.sl ((3 : Nat)) (toksL y.ts) Own.no], some [AV.ptr ((3 : Nat)) ((0 : Nat))]], live := [(y.r.feats.length, (9 : Nat)), (y.r.labels.length, (65 : Nat))] } ∧
 (GoodT y.ts ∧
 parseTk ts = k18 y.r y.ts ∧ y.r.labels = [] ∧ y.ts.length ≤ ts.length) ∧
 True) ∧
 (((hdT (List.drop ((1 : Nat)) (toksL x.ts))).k = (2 : Int) → False) →
 Option.all litOk
 (some
 (Value.iface ((88 : Nat))
 (Value.agg
 #[Value.int IntKind.i64 (hdT (List.drop ((1 : Nat)) (toksL x.ts))).a,
 Value.int IntKind.i64 (90 : Int)]))) =
 true ∧
 (true = true →
 RetLax
 (AV.tup
 [AV.agg
 [AV.str [], AV.sl ((0 : Nat)) [] Own.nil, AV.sl ((0 : Nat)) [] Own.nil,
 AV.int IntKind.i64 (0 : Int), AV.int IntKind.i64 (0 : Int)],
 AV.int IntKind.i64 (hdT (List.drop ((1 : Nat)) (toksL x.ts))).a,
 AV.int IntKind.i64 (90 : Int)])
 (r, [])) ∧
 (true = false →
 RetLax
 (AV.tup
 [AV.agg
 [AV.str x.r.entity,
 AV.sl ((1 : Nat)) (strsL x.r.feats) (Own.tok ((0 : Nat))),
 AV.sl ((0 : Nat)) [] Own.nil, AV.int IntKind.i64 x.r.seed,
 AV.int IntKind.i64 x.r.permille],
 AV.int IntKind.i64 (0 : Int), AV.int IntKind.i64 e])
 (r, []))) ∧
 True) ∧
 ∀ (x : P2),
 GoodT x.ts ∧ parseTk ts = k18 x.r x.ts ∧ x.r.labels = [] ∧ x.ts.length ≤ ts.length →
 True →
 (((0 : Int) ≤ (0 : Int) ∧ (0 : Int) < (↑(toksL x.ts).length : Int)) ∧
 ∃ (n : Int),
 takeAt PQ ((3 : Nat)) (toksL x.ts) ((0 : Nat)) ((0 : Nat)) =
 some (AV.int IntKind.i64 n) ∧
 ((n == (1 : Int)) = true →
 ((0 : Int) ≤ (0 : Int) ∧ (0 : Int) < (↑(toksL x.ts).length : Int)) ∧
 ∃ (s : List UInt8),
 takeAt PQ ((9 : Nat)) (toksL x.ts) ((0 : Nat)) ((1 : Nat)) =
 some (AV.str s) ∧
 ((s == [(97 : UInt8), (116 : UInt8)]) = true →
 (0 : Int) ≤ (1 : Int) ∧
 ((1 : Nat) ≤ (toksL x.ts).length ∧
 (toksL x.ts).length ≤ (toksL x.ts).length) ∧
 ((3 : Nat) = (3 : Nat) ∨ toksL x.ts = []) ∧
 (TokIn
 (List.drop ((1 : Nat))
 (List.take (toksL x.ts).length (toksL x.ts))) ∧
 ((hdT
 (List.drop ((1 : Nat))
 (List.take (toksL x.ts).length
 (toksL x.ts)))).k =
 (4 : Int) →
 TokIn
 (List.drop ((1 : Nat))
 (List.drop ((1 : Nat))
 (List.take (toksL x.ts).length
 (toksL x.ts)))) ∧
 IntIn
 (List.drop ((1 : Nat))
 (List.drop ((1 : Nat))
 (List.take (toksL x.ts).length
 (toksL x.ts))))) ∧
 ((hdT
 (List.drop ((1 : Nat))
 (List.take (toksL x.ts).length
 (toksL x.ts)))).k =
 (4 : Int) →
 (hdT
 (List.drop (1 : Nat)
 (List.drop ((1 : Nat))
 (List.take (toksL x.ts).length
 (toksL x.ts))))).k =
 (2 : Int) →
 TokIn
 (List.drop ((2 : Nat))
 (List.drop ((1 : Nat))
 (List.take (toksL x.ts).length
 (toksL x.ts)))) ∧
 IntIn
 (List.drop ((2 : Nat))
 (List.drop ((1 : Nat))
 (List.take (toksL x.ts).length
 (toksL x.ts))))) ∧
 (∃ (l : List Lb), lbsL x.r.labels = lbsL l) ∧
 x.r.labels.length = (lbsL x.r.labels).length ∧
 (lbsL x.r.labels).length ≤ (1000000 : Nat) ∧
 (true = true ∧
 [AV.int IntKind.i64 e].all
 (AV.p1 (5 : Nat)) =
 true) ∧
 true = true ∧
 [AV.int IntKind.i64 e].all
 (AV.p1 (6 : Nat)) =
 true) ∧
 ((hdT
 (List.drop ((1 : Nat))
 (List.take (toksL x.ts).length
 (toksL x.ts)))).k =
 (4 : Int) ∧
 (hdT
 (List.drop (1 : Nat)
 (List.drop ((1 : Nat))
 (List.take (toksL x.ts).length
 (toksL x.ts))))).k =
 (2 : Int) ∧
 (hdT
 (List.drop (2 : Nat)
 (List.drop ((1 : Nat))
 (List.take (toksL x.ts).length
 (toksL x.ts))))).k =
 (2 : Int) →
 (∃ (y : P2),
 ValsAre
 [AV.ptr ((3 : Nat)) ((0 : Nat)),
 AV.fn ((44 : Nat))
 [AV.ptr ((4 : Nat)) ((0 : Nat)),
 AV.ptr ((0 : Nat)) ((0 : Nat))]]
 [AV.ptr ((3 : Nat)) ((0 : Nat)),
 AV.fn ((44 : Nat))
 [AV.ptr ((4 : Nat)) ((0 : Nat)),
 AV.ptr ((0 : Nat)) ((0 : Nat))]] ∧
 StIs
 { boxes := [some [AV.str x.r.entity, AV.sl ((1 : Nat)) (strsL x.r.feats) (Own.tok ((0 : Nat))), AV.sl ((3 : Nat)) (lbsL x.r.labels ++ [AV.agg [AV.str (hdT (List.drop ((1 : Nat)) (List.take (toksL x.ts).length (toksL x.ts)))).s, AV.int IntKind.i64 (numV (hdT (List.drop (1 : Nat) (List.drop ((1 : Nat)) (List.take (toksL x.ts).length (toksL x.ts))))).s), AV.int IntKind.i64 (numV (hdT (List.drop (2 : Nat) (List.drop ((1 : Nat)) (List.take (toksL x.ts).length (toksL x.ts))))).s)]]) (Own.tok ((1 : Nat))), AV.int IntKind.i64 x.r.seed, AV.int IntKind.i64 x.r.permille], some [AV.int IntKind.i64 (0 : Int)], some [AV.int IntKind.i64 e], some [AV.sl ((3 : Nat)) (List.drop ((3 : Nat)) (List.drop ((1 : Nat)) (List.take (toksL x.ts).length (toksL x.ts)))) Own.no], some [AV.ptr ((3 : Nat)) ((0 : Nat))]], live := [(x.r.feats.length, (9 : Nat)), ((lbsL x.r.labels).length + (1 : Nat), (65 : Nat))] }
 { boxes := [some [AV.str y.r.entity, AV.sl ((1 : Nat)) (strsL y.r.feats) (Own.tok ((0 : Nat))), AV.sl ((3 : Nat)) (lbsL y.r.labels) (Own.tok ((1 : Nat))), AV.int IntKind.i64 y.r.seed, AV.int IntKind.i64 y.r.permille], some [AV.int IntKind.i64 (0 : Int)], some [AV.int IntKind.i64 e], some [AV.sl ((3 : Nat)) (toksL y.ts) Own.no], some [AV.ptr ((3 : Nat)) ((0 : Nat))]], live := [(y.r.feats.length, (9 : Nat)), (y.r.labels.length, (65 : Nat))] } ∧
 (GoodT y.ts ∧
 parseTk ts = kMl y.r y.ts y.r.labels ∧
 y.r.labels.length + y.ts.length ≤
 ts.length) ∧
 True) ∧
 ∀ (x : P2),
 GoodT x.ts ∧
 parseTk ts = kMl x.r x.ts x.r.labels ∧
 x.r.labels.length + x.ts.length ≤
 ts.length →
 ((0 : Int) ≤ (0 : Int) ∧
 (0 : Int) < (↑(toksL x.ts).length : Int)) ∧
 ∃ (n : Int),
 takeAt PQ ((3 : Nat)) (toksL x.ts)
 ((0 : Nat)) ((0 : Nat)) =
 some (AV.int IntKind.i64 n) ∧
 ((n == (5 : Int)) = true →
 ((0 : Int) ≤ (0 : Int) ∧
 (0 : Int) <
 (↑(toksL x.ts).length : Int)) ∧
 ∃ (s : List UInt8),
 takeAt PQ ((9 : Nat)) (toksL x.ts)
 ((0 : Nat)) ((1 : Nat)) =
 some (AV.str s) ∧
 ((s == [(44 : UInt8)]) = true →
 (0 : Int) ≤ (1 : Int) ∧
 ((1 : Nat) ≤
 (toksL
 x.ts).length ∧
 (toksL x.ts).length ≤
 (toksL
 x.ts).length) ∧
 ((3 : Nat) = (3 : Nat) ∨
 toksL x.ts = []) ∧
 (TokIn
 (List.drop
 ((1 : Nat))
 (List.take
 (toksL
 x.ts).length
 (toksL
 x.ts))) ∧
 ((hdT
 (List.drop
 (nat_lit
 1)
 (List.take
 (toksL
 x.ts).length
 (toksL
 x.ts)))).k =
 (4 : Int) →
 TokIn
 (List.drop
 (nat_lit
 1)
 (List.drop
 (nat_lit
 1)
 (List.take
 (toksL
 x.ts).length
 (toksL
 x.ts)))) ∧
 IntIn
 (List.drop
 (nat_lit
 1)
 (List.drop
 (nat_lit
 1)
 (List.take
 (toksL
 x.ts).length
 (toksL
 x.ts))))) ∧
 ((hdT
 (List.drop
 (nat_lit
 1)
 (List.take
 (toksL
 x.ts).length
 (toksL
 x.ts)))).k =
 (4 :
 Int) →
 (hdT
 (List.drop
 (1 :
 Nat)
 (List.drop
 (nat_lit
 1)
 (List.take
 (toksL
 x.ts).length
 (toksL
 x.ts))))).k =
 (2 :
 Int) →
 TokIn
 (List.drop
 (nat_lit
 2)
 (List.drop
 (nat_lit
 1)
 (List.take
 (toksL
 x.ts).length
 (toksL
 x.ts)))) ∧
 IntIn
 (List.drop
 (nat_lit
 2)
 (List.drop
 (nat_lit
 1)
 (List.take
 (toksL
 x.ts).length
 (toksL
 x.ts))))) ∧
 (∃ (l :
 List Lb),
 lbsL
 x.r.labels =
 lbsL
 l) ∧
 x.r.labels.length =
 (lbsL
 x.r.labels).length ∧
 (lbsL
 x.r.labels).length ≤
 nat_lit
 1000000 ∧
 (true =
 true ∧
 [AV.int
 IntKind.i64
 e].all
 (AV.p1
 (5 :
 Nat)) =
 true) ∧
 true =
 true ∧
 [AV.int
 IntKind.i64
 e].all
 (AV.p1
 (6 :
 Nat)) =
 true) ∧
 ((hdT
 (List.drop
 (nat_lit
 1)
 (List.take
 (toksL
 x.ts).length
 (toksL
 x.ts)))).k =
 (4 : Int) ∧
 (hdT
 (List.drop
 (1 :
 Nat)
 (List.drop
 (nat_lit
 1)
 (List.take
 (toksL
 x.ts).length
 (toksL
 x.ts))))).k =
 (2 :
 Int) ∧
 (hdT
 (List.drop
 (2 :
 Nat)
 (List.drop
 (nat_lit
 1)
 (List.take
 (toksL
 x.ts).length
 (toksL
 x.ts))))).k =
 (2 :
 Int) →
 ∃ (y : P2),
 ValsAre
 [AV.ptr
 (nat_lit
 3)
 (nat_lit
 0),
 AV.fn
 (nat_lit
 44)
 [AV.ptr
 (nat_lit
 4)
 (nat_lit
 0),
 AV.ptr
 (nat_lit
 0)
 (nat_lit
 0)]]
 [AV.ptr
 (nat_lit
 3)
 (nat_lit
 0),
 AV.fn
 (nat_lit
 44)
 [AV.ptr
 (nat_lit
 4)
 (nat_lit
 0),
 AV.ptr
 (nat_lit
 0)
 (nat_lit
 0)]] ∧
 StIs
 { boxes := [some [AV.str x.r.entity, AV.sl (nat_lit 1) (strsL x.r.feats) (Own.tok (nat_lit 0)), AV.sl (nat_lit 3) (lbsL x.r.labels ++ [AV.agg [AV.str (hdT (List.drop (nat_lit 1) (List.take (toksL x.ts).length (toksL x.ts)))).s, AV.int IntKind.i64 (numV (hdT (List.drop (1 : Nat) (List.drop (nat_lit 1) (List.take (toksL x.ts).length (toksL x.ts))))).s), AV.int IntKind.i64 (numV (hdT (List.drop (2 : Nat) (List.drop (nat_lit 1) (List.take (toksL x.ts).length (toksL x.ts))))).s)]]) (Own.tok (nat_lit 1)), AV.int IntKind.i64 x.r.seed, AV.int IntKind.i64 x.r.permille], some [AV.int IntKind.i64 (0 : Int)], some [AV.int IntKind.i64 e], some [AV.sl (nat_lit 3) (List.drop (nat_lit 3) (List.drop (nat_lit 1) (List.take (toksL x.ts).length (toksL x.ts)))) Own.no], some [AV.ptr (nat_lit 3) (nat_lit 0)]], live := [(x.r.feats.length, nat_lit 9), ((lbsL x.r.labels).length + nat_lit 1, nat_lit 65)] }
 { boxes := [some [AV.str y.r.entity, AV.sl (nat_lit 1) (strsL y.r.feats) (Own.tok (nat_lit 0)), AV.sl (nat_lit 3) (lbsL y.r.labels) (Own.tok (nat_lit 1)), AV.int IntKind.i64 y.r.seed, AV.int IntKind.i64 y.r.permille], some [AV.int IntKind.i64 (0 : Int)], some [AV.int IntKind.i64 e], some [AV.sl (nat_lit 3) (toksL y.ts) Own.no], some [AV.ptr (nat_lit 3) (nat_lit 0)]], live := [(y.r.feats.length, nat_lit 9), (y.r.labels.length, nat_lit 65)] } ∧
 (GoodT
 y.ts ∧
 parseTk
 ts =
 kMl
 y.r
 y.ts
 y.r.labels ∧
 y.r.labels.length +
 y.ts.length ≤
 ts.length) ∧
 y.ts.length <
 x.ts.length) ∧
 (((hdT
 (List.drop
 (nat_lit
 1)
 (List.take
 (toksL
 x.ts).length
 (toksL
 x.ts)))).k =
 (4 :
 Int) →
 False) →
 Option.all
 litOk
 (some
 (Value.iface
 (nat_lit
 88)
 (Value.agg
 #[Value.int
 IntKind.i64
 (hdT
 (List.drop
 (nat_lit
 1)
 (List.take
 (toksL
 x.ts).length
 (toksL
 x.ts)))).a,
 Value.int
 IntKind.i64
 (90 :
 Int)]))) =
 true ∧
 (true =
 true →
 RetLax
 (AV.tup
 [AV.agg
 [AV.str
 [],
 AV.sl
 (nat_lit
 0)
 []
 Own.nil,
 AV.sl
 (nat_lit
 0)
 []
 Own.nil,
 AV.int
 IntKind.i64
 (0 :
 Int),
 AV.int
 IntKind.i64
 (0 :
 Int)],
 AV.int
 IntKind.i64
 (hdT
 (List.drop
 (nat_lit
 1)
 (List.take
 (toksL
 x.ts).length
 (toksL
 x.ts)))).a,
 AV.int
 IntKind.i64
 (90 :
 Int)])
 (r,
 [])) ∧
 (true =
 false →
 RetLax
 (AV.tup
 [AV.agg
 [AV.str
 x.r.entity,
 AV.sl
 (nat_lit
 1)
 (strsL
 x.r.feats)
 (Own.tok
 (nat_lit
 0)),
 AV.sl
 (nat_lit
 3)
 (lbsL
 x.r.labels)
 (Own.tok
 (nat_lit
 1)),
 AV.int
 IntKind.i64
 x.r.seed,
 AV.int
 IntKind.i64
 x.r.permille],
 AV.int
 IntKind.i64
 (0 :
 Int),
 AV.int
 IntKind.i64
 e])
 (r,
 []))) ∧
 ((hdT
 (List.drop
 (nat_lit
 1)
 (List.take
 (toksL
 x.ts).length
 (toksL
 x.ts)))).k =
 (4 :
 Int) ∧
 (hdT
 (List.drop
 (1 :
 Nat)
 (List.drop
 (nat_lit
 1)
 (List.take
 (toksL
 x.ts).length
 (toksL
 x.ts))))).k ≠
 (2 :
 Int) →
 Option.all
 litOk
 (some
 (Value.iface
 (nat_lit
 88)
 (Value.agg
 #[Value.int
 IntKind.i64
 (hdT
 (List.drop
 (1 :
 Nat)
 (List.drop
 (nat_lit
 1)
 (List.take
 (toksL
 x.ts).length
 (toksL
 x.ts))))).a,
 Value.int
 IntKind.i64
 (90 :
 Int)]))) =
 true ∧
 (true =
 true →
 RetLax
 (AV.tup
 [AV.agg
 [AV.str
 [],
 AV.sl
 (nat_lit
 0)
 []
 Own.nil,
 AV.sl
 (nat_lit
 0)
 []
 Own.nil,
 AV.int
 IntKind.i64
 (0 :
 Int),
 AV.int
 IntKind.i64
 (0 :
 Int)],
 AV.int
 IntKind.i64
 (hdT
 (List.drop
 (1 :
 Nat)
 (List.drop
 (nat_lit
 1)
 (List.take
 (toksL
 x.ts).length
 (toksL
 x.ts))))).a,
 AV.int
 IntKind.i64
 (90 :
 Int)])
 (r,
 [])) ∧
 (true =
 false →
 RetLax
 (AV.tup
 [AV.agg
 [AV.str
 x.r.entity,
 AV.sl
 (nat_lit
 1)
 (strsL
 x.r.feats)
 (Own.tok
 (nat_lit
 0)),
 AV.sl
 (nat_lit
 3)
 (lbsL
 x.r.labels)
 (Own.tok
 (nat_lit
 1)),
 AV.int
 IntKind.i64
 x.r.seed,
 AV.int
 IntKind.i64
 x.r.permille],
 AV.int
 IntKind.i64
 (0 :
 Int),
 AV.int
 IntKind.i64
 e])
 (r,
 []))) ∧
 ((hdT
 (List.drop
 (nat_lit
 1)
 (List.take
 (toksL
 x.ts).length
 (toksL
 x.ts)))).k =
 (4 :
 Int) ∧
 (hdT
 (List.drop
 (1 :
 Nat)
 (List.drop
 (nat_lit
 1)
 (List.take
 (toksL
 x.ts).length
 (toksL
 x.ts))))).k =
 (2 :
 Int) ∧
 (hdT
 (List.drop
 (2 :
 Nat)
 (List.drop
 (nat_lit
 1)
 (List.take
 (toksL
 x.ts).length
 (toksL
 x.ts))))).k ≠
 (2 :
 Int) →
 Option.all
 litOk
 (some
 (Value.iface
 (nat_lit
 88)
 (Value.agg
 #[Value.int
 IntKind.i64
 (hdT
 (List.drop
 (2 :
 Nat)
 (List.drop
 (nat_lit
 1)
 (List.take
 (toksL
 x.ts).length
 (toksL
 x.ts))))).a,
 Value.int
 IntKind.i64
 (90 :
 Int)]))) =
 true ∧
 (true =
 true →
 RetLax
 (AV.tup
 [AV.agg
 [AV.str
 [],
 AV.sl
 (nat_lit
 0)
 []
 Own.nil,
 AV.sl
 (nat_lit
 0)
 []
 Own.nil,
 AV.int
 IntKind.i64
 (0 :
 Int),
 AV.int
 IntKind.i64
 (0 :
 Int)],
 AV.int
 IntKind.i64
 (hdT
 (List.drop
 (2 :
 Nat)
 (List.drop
 (nat_lit
 1)
 (List.take
 (toksL
 x.ts).length
 (toksL
 x.ts))))).a,
 AV.int
 IntKind.i64
 (90 :
 Int)])
 (r,
 [])) ∧
 (true =
 false →
 RetLax
 (AV.tup
 [AV.agg
 [AV.str
 x.r.entity,
 AV.sl
 (nat_lit
 1)
 (strsL
 x.r.feats)
 (Own.tok
 (nat_lit
 0)),
 AV.sl
 (nat_lit
 3)
 (lbsL
 x.r.labels)
 (Own.tok
 (nat_lit
 1)),
 AV.int
 IntKind.i64
 x.r.seed,
 AV.int
 IntKind.i64
 x.r.permille],
 AV.int
 IntKind.i64
 (0 :
 Int),
 AV.int
 IntKind.i64
 e])
 (r,
 []))) ∧
 True) ∧
 ((s == [(44 : UInt8)]) =
 false →
 ∃ (y : P2),
 ValsAre
 [AV.ptr ((0 : Nat))
 ((0 : Nat)),
 AV.ptr ((1 : Nat))
 ((0 : Nat)),
 AV.ptr ((2 : Nat))
 ((0 : Nat)),
 AV.ptr ((4 : Nat))
 ((0 : Nat))]
 [AV.ptr ((0 : Nat))
 ((0 : Nat)),
 AV.ptr ((1 : Nat))
 ((0 : Nat)),
 AV.ptr ((2 : Nat))
 ((0 : Nat)),
 AV.ptr ((4 : Nat))
 ((0 : Nat))] ∧
 StIs
 { boxes := [some [AV.str x.r.entity, AV.sl (nat_lit 1) (strsL x.r.feats) (Own.tok (nat_lit 0)), AV.sl (nat_lit 3) (lbsL x.r.labels) (Own.tok (nat_lit 1)), AV.int IntKind.i64 x.r.seed, AV.int IntKind.i64 x.r.permille], some [AV.int IntKind.i64 (0 : Int)], some [AV.int IntKind.i64 e], some [AV.sl (nat_lit 3) (toksL x.ts) Own.no], some [AV.ptr (nat_lit 3) (nat_lit 0)]], live := [(x.r.feats.length, (9 : Nat)), (x.r.labels.length, nat_lit 65)] }
 { boxes := [some [AV.str y.r.entity, AV.sl (nat_lit 1) (strsL y.r.feats) (Own.tok (nat_lit 0)), AV.sl (nat_lit 3) (lbsL y.r.labels) (Own.tok (nat_lit 1)), AV.int IntKind.i64 y.r.seed, AV.int IntKind.i64 y.r.permille], some [AV.int IntKind.i64 (0 : Int)], some [AV.int IntKind.i64 e], some [AV.sl (nat_lit 3) (toksL y.ts) Own.no], some [AV.ptr (nat_lit 3) (nat_lit 0)]], live := [(y.r.feats.length, (9 : Nat)), (y.r.labels.length, nat_lit 65)] } ∧
 (GoodT y.ts ∧
 parseTk ts =
 k21 y.r y.ts) ∧
 True)) ∧
 ((n == (5 : Int)) = false →
 ∃ (y : P2),
 ValsAre
 [AV.ptr ((0 : Nat)) ((0 : Nat)),
 AV.ptr ((1 : Nat))
 ((0 : Nat)),
 AV.ptr ((2 : Nat))
 ((0 : Nat)),
 AV.ptr ((4 : Nat))
 ((0 : Nat))]
 [AV.ptr ((0 : Nat)) ((0 : Nat)),
 AV.ptr ((1 : Nat))
 ((0 : Nat)),
 AV.ptr ((2 : Nat))
 ((0 : Nat)),
 AV.ptr ((4 : Nat))
 ((0 : Nat))] ∧
 StIs
 { boxes := [some [AV.str x.r.entity, AV.sl ((1 : Nat)) (strsL x.r.feats) (Own.tok ((0 : Nat))), AV.sl ((3 : Nat)) (lbsL x.r.labels) (Own.tok ((1 : Nat))), AV.int IntKind.i64 x.r.seed, AV.int IntKind.i64 x.r.permille], some [AV.int IntKind.i64 (0 : Int)], some [AV.int IntKind.i64 e], some [AV.sl ((3 : Nat)) (toksL x.ts) Own.no], some [AV.ptr ((3 : Nat)) ((0 : Nat))]], live := [(x.r.feats.length, (9 : Nat)), (x.r.labels.length, (65 : Nat))] }
 { boxes := [some [AV.str y.r.entity, AV.sl ((1 : Nat)) (strsL y.r.feats) (Own.tok ((0 : Nat))), AV.sl ((3 : Nat)) (lbsL y.r.labels) (Own.tok ((1 : Nat))), AV.int IntKind.i64 y.r.seed, AV.int IntKind.i64 y.r.permille], some [AV.int IntKind.i64 (0 : Int)], some [AV.int IntKind.i64 e], some [AV.sl ((3 : Nat)) (toksL y.ts) Own.no], some [AV.ptr ((3 : Nat)) ((0 : Nat))]], live := [(y.r.feats.length, (9 : Nat)), (y.r.labels.length, (65 : Nat))] } ∧
 (GoodT y.ts ∧
 parseTk ts = k21 y.r y.ts) ∧
 True)) ∧
 (((hdT
 (List.drop ((1 : Nat))
 (List.take (toksL x.ts).length
 (toksL x.ts)))).k =
 (4 : Int) →
 False) →
 Option.all litOk
 (some
 (Value.iface ((88 : Nat))
 (Value.agg
 #[Value.int IntKind.i64
 (hdT
 (List.drop ((1 : Nat))
 (List.take (toksL x.ts).length
 (toksL x.ts)))).a,
 Value.int IntKind.i64 (90 : Int)]))) =
 true ∧
 (true = true →
 RetLax
 (AV.tup
 [AV.agg
 [AV.str [],
 AV.sl ((0 : Nat)) [] Own.nil,
 AV.sl ((0 : Nat)) [] Own.nil,
 AV.int IntKind.i64 (0 : Int),
 AV.int IntKind.i64 (0 : Int)],
 AV.int IntKind.i64
 (hdT
 (List.drop ((1 : Nat))
 (List.take (toksL x.ts).length
 (toksL x.ts)))).a,
 AV.int IntKind.i64 (90 : Int)])
 (r, [])) ∧
 (true = false →
 RetLax
 (AV.tup
 [AV.agg
 [AV.str x.r.entity,
 AV.sl ((1 : Nat)) (strsL x.r.feats)
 (Own.tok ((0 : Nat))),
 AV.sl ((3 : Nat)) (lbsL x.r.labels)
 (Own.tok ((1 : Nat))),
 AV.int IntKind.i64 x.r.seed,
 AV.int IntKind.i64 x.r.permille],
 AV.int IntKind.i64 (0 : Int),
 AV.int IntKind.i64 e])
 (r, []))) ∧
 ((hdT
 (List.drop ((1 : Nat))
 (List.take (toksL x.ts).length
 (toksL x.ts)))).k =
 (4 : Int) ∧
 (hdT
 (List.drop (1 : Nat)
 (List.drop ((1 : Nat))
 (List.take (toksL x.ts).length
 (toksL x.ts))))).k ≠
 (2 : Int) →
 Option.all litOk
 (some
 (Value.iface ((88 : Nat))
 (Value.agg
 #[Value.int IntKind.i64
 (hdT
 (List.drop (1 : Nat)
 (List.drop ((1 : Nat))
 (List.take
 (toksL x.ts).length
 (toksL x.ts))))).a,
 Value.int IntKind.i64
 (90 : Int)]))) =
 true ∧
 (true = true →
 RetLax
 (AV.tup
 [AV.agg
 [AV.str [],
 AV.sl ((0 : Nat)) [] Own.nil,
 AV.sl ((0 : Nat)) [] Own.nil,
 AV.int IntKind.i64 (0 : Int),
 AV.int IntKind.i64 (0 : Int)],
 AV.int IntKind.i64
 (hdT
 (List.drop (1 : Nat)
 (List.drop ((1 : Nat))
 (List.take
 (toksL x.ts).length
 (toksL x.ts))))).a,
 AV.int IntKind.i64 (90 : Int)])
 (r, [])) ∧
 (true = false →
 RetLax
 (AV.tup
 [AV.agg
 [AV.str x.r.entity,
 AV.sl ((1 : Nat))
 (strsL x.r.feats)
 (Own.tok ((0 : Nat))),
 AV.sl ((3 : Nat))
 (lbsL x.r.labels)
 (Own.tok ((1 : Nat))),
 AV.int IntKind.i64 x.r.seed,
 AV.int IntKind.i64 x.r.permille],
 AV.int IntKind.i64 (0 : Int),
 AV.int IntKind.i64 e])
 (r, []))) ∧
 ((hdT
 (List.drop ((1 : Nat))
 (List.take (toksL x.ts).length
 (toksL x.ts)))).k =
 (4 : Int) ∧
 (hdT
 (List.drop (1 : Nat)
 (List.drop ((1 : Nat))
 (List.take (toksL x.ts).length
 (toksL x.ts))))).k =
 (2 : Int) ∧
 (hdT
 (List.drop (2 : Nat)
 (List.drop ((1 : Nat))
 (List.take (toksL x.ts).length
 (toksL x.ts))))).k ≠
 (2 : Int) →
 Option.all litOk
 (some
 (Value.iface ((88 : Nat))
 (Value.agg
 #[Value.int IntKind.i64
 (hdT
 (List.drop (2 : Nat)
 (List.drop ((1 : Nat))
 (List.take
 (toksL x.ts).length
 (toksL x.ts))))).a,
 Value.int IntKind.i64
 (90 : Int)]))) =
 true ∧
 (true = true →
 RetLax
 (AV.tup
 [AV.agg
 [AV.str [],
 AV.sl ((0 : Nat)) [] Own.nil,
 AV.sl ((0 : Nat)) [] Own.nil,
 AV.int IntKind.i64 (0 : Int),
 AV.int IntKind.i64 (0 : Int)],
 AV.int IntKind.i64
 (hdT
 (List.drop (2 : Nat)
 (List.drop ((1 : Nat))
 (List.take
 (toksL x.ts).length
 (toksL x.ts))))).a,
 AV.int IntKind.i64 (90 : Int)])
 (r, [])) ∧
 (true = false →
 RetLax
 (AV.tup
 [AV.agg
 [AV.str x.r.entity,
 AV.sl ((1 : Nat))
 (strsL x.r.feats)
 (Own.tok ((0 : Nat))),
 AV.sl ((3 : Nat))
 (lbsL x.r.labels)
 (Own.tok ((1 : Nat))),
 AV.int IntKind.i64 x.r.seed,
 AV.int IntKind.i64
 x.r.permille],
 AV.int IntKind.i64 (0 : Int),
 AV.int IntKind.i64 e])
 (r, []))) ∧
 True) ∧
 ((s == [(97 : UInt8), (116 : UInt8)]) = false →
 ∃ (y : P2),
 ValsAre
 [AV.ptr ((0 : Nat)) ((0 : Nat)),
 AV.ptr ((1 : Nat)) ((0 : Nat)),
 AV.ptr ((2 : Nat)) ((0 : Nat)),
 AV.ptr ((4 : Nat)) ((0 : Nat))]
 [AV.ptr ((0 : Nat)) ((0 : Nat)),
 AV.ptr ((1 : Nat)) ((0 : Nat)),
 AV.ptr ((2 : Nat)) ((0 : Nat)),
 AV.ptr ((4 : Nat)) ((0 : Nat))] ∧
 StIs
 { boxes := [some [AV.str x.r.entity, AV.sl ((1 : Nat)) (strsL x.r.feats) (Own.tok ((0 : Nat))), AV.sl ((3 : Nat)) (lbsL x.r.labels) (Own.tok ((1 : Nat))), AV.int IntKind.i64 x.r.seed, AV.int IntKind.i64 x.r.permille], some [AV.int IntKind.i64 (0 : Int)], some [AV.int IntKind.i64 e], some [AV.sl ((3 : Nat)) (toksL x.ts) Own.no], some [AV.ptr ((3 : Nat)) ((0 : Nat))]], live := [(x.r.feats.length, (9 : Nat)), (x.r.labels.length, (65 : Nat))] }
 { boxes := [some [AV.str y.r.entity, AV.sl ((1 : Nat)) (strsL y.r.feats) (Own.tok ((0 : Nat))), AV.sl ((3 : Nat)) (lbsL y.r.labels) (Own.tok ((1 : Nat))), AV.int IntKind.i64 y.r.seed, AV.int IntKind.i64 y.r.permille], some [AV.int IntKind.i64 (0 : Int)], some [AV.int IntKind.i64 e], some [AV.sl ((3 : Nat)) (toksL y.ts) Own.no], some [AV.ptr ((3 : Nat)) ((0 : Nat))]], live := [(y.r.feats.length, (9 : Nat)), (y.r.labels.length, (65 : Nat))] } ∧
 (GoodT y.ts ∧ parseTk ts = k21 y.r y.ts) ∧ True)) ∧
 ((n == (1 : Int)) = false →
 ∃ (y : P2),
 ValsAre
 [AV.ptr ((0 : Nat)) ((0 : Nat)), AV.ptr ((1 : Nat)) ((0 : Nat)),
 AV.ptr ((2 : Nat)) ((0 : Nat)), AV.ptr ((4 : Nat)) ((0 : Nat))]
 [AV.ptr ((0 : Nat)) ((0 : Nat)), AV.ptr ((1 : Nat)) ((0 : Nat)),
 AV.ptr ((2 : Nat)) ((0 : Nat)), AV.ptr ((4 : Nat)) ((0 : Nat))] ∧
 StIs
 { boxes := [some [AV.str x.r.entity, AV.sl ((1 : Nat)) (strsL x.r.feats) (Own.tok ((0 : Nat))), AV.sl ((3 : Nat)) (lbsL x.r.labels) (Own.tok ((1 : Nat))), AV.int IntKind.i64 x.r.seed, AV.int IntKind.i64 x.r.permille], some [AV.int IntKind.i64 (0 : Int)], some [AV.int IntKind.i64 e], some [AV.sl ((3 : Nat)) (toksL x.ts) Own.no], some [AV.ptr ((3 : Nat)) ((0 : Nat))]], live := [(x.r.feats.length, (9 : Nat)), (x.r.labels.length, (65 : Nat))] }
 { boxes := [some [AV.str y.r.entity, AV.sl ((1 : Nat)) (strsL y.r.feats) (Own.tok ((0 : Nat))), AV.sl ((3 : Nat)) (lbsL y.r.labels) (Own.tok ((1 : Nat))), AV.int IntKind.i64 y.r.seed, AV.int IntKind.i64 y.r.permille], some [AV.int IntKind.i64 (0 : Int)], some [AV.int IntKind.i64 e], some [AV.sl ((3 : Nat)) (toksL y.ts) Own.no], some [AV.ptr ((3 : Nat)) ((0 : Nat))]], live := [(y.r.feats.length, (9 : Nat)), (y.r.labels.length, (65 : Nat))] } ∧
 (GoodT y.ts ∧ parseTk ts = k21 y.r y.ts) ∧ True)) ∧
 ∀ (x : P2),
 GoodT x.ts ∧ parseTk ts = k21 x.r x.ts →
 True →
 (TokIn (toksL x.ts) ∧
 [AV.str x.r.entity,
 AV.sl ((1 : Nat)) (strsL x.r.feats) (Own.tok ((0 : Nat))),
 AV.sl ((3 : Nat)) (lbsL x.r.labels) (Own.tok ((1 : Nat))),
 AV.int IntKind.i64 x.r.seed, AV.int IntKind.i64 x.r.permille].all
 (AV.p1 (5 : Nat)) =
 true ∧
 true = true ∧ [AV.int IntKind.i64 e].all (AV.p1 (5 : Nat)) = true) ∧
 ((hdT (toksL x.ts)).k = (6 : Int) ∧
 accS ((45 : Nat)) [] (hdT (toksL x.ts)).s = true →
 ∃ (b : Bool),
 CallIs
 (tbl [((36 : Nat), s), ((46 : Nat), s46)] ((46 : Nat))
 [AV.agg
 [AV.str x.r.entity,
 AV.sl ((1 : Nat)) (strsL x.r.feats) Own.no,
 AV.sl ((3 : Nat)) (lbsL x.r.labels) Own.no,
 AV.int IntKind.i64 x.r.seed,
 AV.int IntKind.i64 x.r.permille]])
 (AV.bool b) [] ∧
 (b = true →
 true = true ∧
 (false = true →
 RetLax
 (AV.tup
 [AV.agg
 [AV.str [], AV.sl ((0 : Nat)) [] Own.nil,
 AV.sl ((0 : Nat)) [] Own.nil,
 AV.int IntKind.i64 (0 : Int),
 AV.int IntKind.i64 (0 : Int)],
 AV.int IntKind.i64 (0 : Int),
 AV.int IntKind.i64 (0 : Int)])
 (r, [])) ∧
 (false = false →
 RetLax
 (AV.tup
 [AV.agg
 [AV.str x.r.entity,
 AV.sl ((1 : Nat)) (strsL x.r.feats)
 (Own.tok ((0 : Nat))),
 AV.sl ((3 : Nat)) (lbsL x.r.labels)
 (Own.tok ((1 : Nat))),
 AV.int IntKind.i64 x.r.seed,
 AV.int IntKind.i64 x.r.permille],
 AV.int IntKind.i64 (0 : Int),
 AV.int IntKind.i64 (0 : Int)])
 (r, []))) ∧
 (b = false →
 true = true ∧
 (true = true →
 RetLax
 (AV.tup
 [AV.agg
 [AV.str [], AV.sl ((0 : Nat)) [] Own.nil,
 AV.sl ((0 : Nat)) [] Own.nil,
 AV.int IntKind.i64 (0 : Int),
 AV.int IntKind.i64 (0 : Int)],
 AV.int IntKind.i64 (0 : Int),
 AV.int IntKind.i64 (240 : Int)])
 (r, [])) ∧
 (true = false →
 RetLax
 (AV.tup
 [AV.agg
 [AV.str x.r.entity,
 AV.sl ((1 : Nat)) (strsL x.r.feats)
 (Own.tok ((0 : Nat))),
 AV.sl ((3 : Nat)) (lbsL x.r.labels)
 (Own.tok ((1 : Nat))),
 AV.int IntKind.i64 x.r.seed,
 AV.int IntKind.i64 x.r.permille],
 AV.int IntKind.i64 (0 : Int), AV.int IntKind.i64 e])
 (r, [])))) ∧
 (((hdT (toksL x.ts)).k = (6 : Int) ∧
 accS ((45 : Nat)) [] (hdT (toksL x.ts)).s = true →
 False) →
 Option.all litOk
 (some
 (Value.iface ((88 : Nat))
 (Value.agg
 #[Value.int IntKind.i64 (hdT (toksL x.ts)).a,
 Value.int IntKind.i64 (90 : Int)]))) =
 true ∧
 (true = true →
 RetLax
 (AV.tup
 [AV.agg
 [AV.str [], AV.sl ((0 : Nat)) [] Own.nil,
 AV.sl ((0 : Nat)) [] Own.nil,
 AV.int IntKind.i64 (0 : Int),
 AV.int IntKind.i64 (0 : Int)],
 AV.int IntKind.i64 (hdT (toksL x.ts)).a,
 AV.int IntKind.i64 (90 : Int)])
 (r, [])) ∧
 (true = false →
 RetLax
 (AV.tup
 [AV.agg
 [AV.str x.r.entity,
 AV.sl ((1 : Nat)) (strsL x.r.feats)
 (Own.tok ((0 : Nat))),
 AV.sl ((3 : Nat)) (lbsL x.r.labels)
 (Own.tok ((1 : Nat))),
 AV.int IntKind.i64 x.r.seed,
 AV.int IntKind.i64 x.r.permille],
 AV.int IntKind.i64 (0 : Int), AV.int IntKind.i64 e])
 (r, []))) ∧
 True) ∧
 (((hdT (toksL x.ts)).k = (1 : Int) ∧
 ((hdT (toksL x.ts)).s == [(107 : UInt8), (101 : UInt8), (101 : UInt8), (112 : UInt8)]) =
 true →
 False) →
 Option.all litOk
 (some
 (Value.iface ((88 : Nat))
 (Value.agg
 #[Value.int IntKind.i64 (hdT (toksL x.ts)).a,
 Value.int IntKind.i64 (90 : Int)]))) =
 true ∧
 (true = true →
 RetLax
 (AV.tup
 [AV.agg
 [AV.str [], AV.sl ((0 : Nat)) [] Own.nil, AV.sl ((0 : Nat)) [] Own.nil,
 AV.int IntKind.i64 (0 : Int), AV.int IntKind.i64 (0 : Int)],
 AV.int IntKind.i64 (hdT (toksL x.ts)).a, AV.int IntKind.i64 (90 : Int)])
 (r, [])) ∧
 (true = false →
 RetLax
 (AV.tup
 [AV.agg
 [AV.str x.r.entity, AV.sl ((1 : Nat)) (strsL x.r.feats) (Own.tok ((0 : Nat))),
 AV.sl ((0 : Nat)) [] Own.nil, AV.int IntKind.i64 x.r.seed,
 AV.int IntKind.i64 x.r.permille],
 AV.int IntKind.i64 (0 : Int), AV.int IntKind.i64 e])
 (r, []))) ∧
 True) ∧
 (((hdT (toksL x.ts)).k = (1 : Int) ∧
 ((hdT (toksL x.ts)).s == [(115 : UInt8), (101 : UInt8), (101 : UInt8), (100 : UInt8)]) = true →
 False) →
 Option.all litOk
 (some
 (Value.iface ((88 : Nat))
 (Value.agg #[Value.int IntKind.i64 (hdT (toksL x.ts)).a, Value.int IntKind.i64 (90 : Int)]))) =
 true ∧
 (true = true →
 RetLax
 (AV.tup
 [AV.agg
 [AV.str [], AV.sl ((0 : Nat)) [] Own.nil, AV.sl ((0 : Nat)) [] Own.nil,
 AV.int IntKind.i64 (0 : Int), AV.int IntKind.i64 (0 : Int)],
 AV.int IntKind.i64 (hdT (toksL x.ts)).a, AV.int IntKind.i64 (90 : Int)])
 (r, [])) ∧
 (true = false →
 RetLax
 (AV.tup
 [AV.agg
 [AV.str x.r.entity, AV.sl ((1 : Nat)) (strsL x.r.feats) (Own.tok ((0 : Nat))),
 AV.sl ((0 : Nat)) [] Own.nil, AV.int IntKind.i64 x.r.seed, AV.int IntKind.i64 x.r.permille],
 AV.int IntKind.i64 (0 : Int), AV.int IntKind.i64 e])
 (r, []))) ∧
 True) ∧
 (((hdT (toksL ts)).k = (1 : Int) ∧ ((hdT (toksL ts)).s == [(111 : UInt8), (102 : UInt8)]) = true → False) →
 Option.all litOk
 (some (Value.iface ((88 : Nat)) (Value.agg #[Value.int IntKind.i64 (hdT (toksL ts)).a, Value.int IntKind.i64 (90 : Int)]))) =
 true ∧
 (true = true →
 RetLax
 (AV.tup
 [AV.agg
 [AV.str [], AV.sl ((0 : Nat)) [] Own.nil, AV.sl ((0 : Nat)) [] Own.nil, AV.int IntKind.i64 (0 : Int),
 AV.int IntKind.i64 (0 : Int)],
 AV.int IntKind.i64 (hdT (toksL ts)).a, AV.int IntKind.i64 (90 : Int)])
 (r, [])) ∧
 (true = false →
 RetLax
 (AV.tup
 [AV.agg
 [AV.str [], AV.sl ((0 : Nat)) [] Own.nil, AV.sl ((0 : Nat)) [] Own.nil, AV.int IntKind.i64 (0 : Int),
 AV.int IntKind.i64 (0 : Int)],
 AV.int IntKind.i64 (0 : Int), AV.int IntKind.i64 e])
 (r, []))) ∧
 True)))) := by kernel_rfl
end Go.Abs
