/- Own texts, part 8. -/
import Derived.Test.YtpglogahncpnoaaGreatPart7

namespace Go.Abs
open Go.Proofs
theorem wz61 (m:Int) (a b:List VaI):(pureW PI (GI m) XSe (tbl []) (itbl []) (az61 a b) [] 61 [.sl 3 (vasL a) .no,.sl 3 (vasL b) .no] (.bool (decide (a = b)),[])) =
((((↑(vasL a).length : Int) != (↑(vasL b).length : Int)) = true → RetIs (AV.bool false) [] (AV.bool (decide (a = b)), [])) ∧
  (((↑(vasL a).length : Int) != (↑(vasL b).length : Int)) = false →
    (∃ (y : Nat),
        ValsAre [AV.sl ((3:Nat)) (vasL a) Own.no,AV.sl ((3:Nat)) (vasL b) Own.no,AV.int IntKind.i64 (0:Int)]
 [AV.sl ((3:Nat)) (vasL a) Own.no,AV.sl ((3:Nat)) (vasL b) Own.no,AV.int IntKind.i64 (↑y:Int)] ∧
 StIs { boxes:=[],live:=[] } { boxes:=[],live:=[] }∧(y≤a.length∧List.take y a = List.take y b)∧True) ∧
      ∀ (x:Nat),
        x≤a.length∧List.take x a = List.take x b →
 (decide ((↑x:Int) < (↑(vasL a).length:Int)) = true →
 ((0:Int)≤(↑x:Int)∧(↑x:Int) < (↑(vasL a).length:Int)) ∧
 ∃ (n:Int),
 ∃ (n_1:Int),
 ∃ (s:List UInt8),
 takeAt PI ((78:Nat)) (vasL a) (↑x:Int).toNat ((0:Nat)) = some (AV.agg [AV.int IntKind.i64 n,AV.int IntKind.i64 n_1,AV.str s]) ∧
 ((0:Int)≤(↑x:Int)∧(↑x:Int) < (↑(vasL b).length:Int)) ∧
 ∃ (n_2:Int),
 ∃ (n_3:Int),
 ∃ (s_1:List UInt8),
 takeAt PI ((78:Nat)) (vasL b) (↑x:Int).toNat ((0:Nat)) =
 some (AV.agg [AV.int IntKind.i64 n_2,AV.int IntKind.i64 n_3,AV.str s_1]) ∧
 ((!(n == n_2 && (n_1 == n_3 && (s == s_1 && true)))) = true→RetIs (AV.bool false) [] (AV.bool (decide (a = b)),[])) ∧
 ((!(n == n_2 && (n_1 == n_3 && (s == s_1 && true)))) = false →
 ∃ (y:Nat),
 ValsAre
 [AV.sl ((3:Nat)) (vasL a) Own.no,AV.sl ((3:Nat)) (vasL b) Own.no,
 AV.int IntKind.i64 (IntKind.i64.wrap ((↑x:Int) + (1:Int)))]
 [AV.sl ((3:Nat)) (vasL a) Own.no,AV.sl ((3:Nat)) (vasL b) Own.no,AV.int IntKind.i64 (↑y:Int)] ∧
 StIs { boxes:=[],live:=[] } { boxes:=[],live:=[] } ∧
 (y≤a.length∧List.take y a = List.take y b)∧a.length - y < a.length - x)) ∧
 (decide ((↑x:Int) < (↑(vasL a).length:Int)) = false→RetIs (AV.bool true) [] (AV.bool (decide (a = b)),[])))):=by kernel_rfl
theorem wz38 (m:Int) (f g:FcI):(pureW PI (GI m) XSe (tbl [(61,z61)]) (itbl []) nAn [] 38 [.agg (fcC f),.agg (fcC g)] (.bool (decide (f = g)),[])) =
(((f.src == g.src && (f.seq == g.seq && true)) = true →
    ((f.kind == g.kind) = true →
        ((f.ref == g.ref) = true →
 ((f.table == g.table) = true →
 ((f.key == g.key) = true →
 ((f.event == g.event) = true →
 ∃ (b:Bool),
 CallIs (tbl [((61:Nat),z61)] ((61:Nat)) [AV.sl ((3:Nat)) (vasL f.fs) Own.no,AV.sl ((3:Nat)) (vasL g.fs) Own.no]) (AV.bool b)
 [] ∧
 (b = true→RetIs (AV.bool true) [] (AV.bool (decide (f = g)),[])) ∧
 (b = false→RetIs (AV.bool false) [] (AV.bool (decide (f = g)),[]))) ∧
 ((f.event == g.event) = false→RetIs (AV.bool false) [] (AV.bool (decide (f = g)),[]))) ∧
 ((f.key == g.key) = false→RetIs (AV.bool false) [] (AV.bool (decide (f = g)),[]))) ∧
 ((f.table == g.table) = false→RetIs (AV.bool false) [] (AV.bool (decide (f = g)),[]))) ∧
 ((f.ref == g.ref) = false→RetIs (AV.bool false) [] (AV.bool (decide (f = g)),[]))) ∧
      ((f.kind == g.kind) = false→RetIs (AV.bool false) [] (AV.bool (decide (f = g)),[]))) ∧
  ((f.src == g.src && (f.seq == g.seq && true)) = false→RetIs (AV.bool false) [] (AV.bool (decide (f = g)),[]))):=by kernel_rfl
theorem wz35 (m:Int) (a b:List FcI):(pureW PI (GI m) XSe (tbl [(38,z38)]) (itbl []) (az35 a b) [] 35 [.sl 8 (fcsL a) .no,.sl 8 (fcsL b) .no] (.bool (decide (a = b)),[])) =
((((↑(fcsL a).length : Int) != (↑(fcsL b).length : Int)) = true → RetIs (AV.bool false) [] (AV.bool (decide (a = b)), [])) ∧
  (((↑(fcsL a).length : Int) != (↑(fcsL b).length : Int)) = false →
    (∃ (y : Nat),
        ValsAre [AV.sl ((8:Nat)) (fcsL a) Own.no,AV.sl ((8:Nat)) (fcsL b) Own.no,AV.int IntKind.i64 (0:Int)]
 [AV.sl ((8:Nat)) (fcsL a) Own.no,AV.sl ((8:Nat)) (fcsL b) Own.no,AV.int IntKind.i64 (↑y:Int)] ∧
 StIs { boxes:=[],live:=[] } { boxes:=[],live:=[] }∧(y≤a.length∧List.take y a = List.take y b)∧True) ∧
      ∀ (x:Nat),
        x≤a.length∧List.take x a = List.take x b →
 (decide ((↑x:Int) < (↑(fcsL a).length:Int)) = true →
 ((0:Int)≤(↑x:Int)∧(↑x:Int) < (↑(fcsL a).length:Int)) ∧
 ∃ (s:List UInt8),
 ∃ (n:Int),
 ∃ (n_1:Int),
 ∃ (n_2:Int),
 ∃ (s_1:List UInt8),
 ∃ (s_2:List UInt8),
 ∃ (n_3:Int),
 ∃ (es:List AV),
 takeAt PI ((29:Nat)) (fcsL a) (↑x:Int).toNat ((0:Nat)) =
 some
 (AV.agg
 [AV.str s,AV.int IntKind.i64 n,AV.int IntKind.i64 n_1,AV.int IntKind.i64 n_2,AV.str s_1,AV.str s_2,
 AV.int IntKind.i64 n_3,AV.sl ((3:Nat)) es Own.no]) ∧
 ((0:Int)≤(↑x:Int)∧(↑x:Int) < (↑(fcsL b).length:Int)) ∧
 ∃ (s_3:List UInt8),
 ∃ (n_4:Int),
 ∃ (n_5:Int),
 ∃ (n_6:Int),
 ∃ (s_4:List UInt8),
 ∃ (s_5:List UInt8),
 ∃ (n_7:Int),
 ∃ (es_1:List AV),
 takeAt PI ((29:Nat)) (fcsL b) (↑x:Int).toNat ((0:Nat)) =
 some
 (AV.agg
 [AV.str s_3,AV.int IntKind.i64 n_4,AV.int IntKind.i64 n_5,AV.int IntKind.i64 n_6,AV.str s_4,
 AV.str s_5,AV.int IntKind.i64 n_7,AV.sl ((3:Nat)) es_1 Own.no]) ∧
 ∃ (b_1:Bool),
 CallIs
 (tbl [((38:Nat),z38)] ((38:Nat))
 [AV.agg
 [AV.str s,AV.int IntKind.i64 n,AV.int IntKind.i64 n_1,AV.int IntKind.i64 n_2,AV.str s_1,
 AV.str s_2,AV.int IntKind.i64 n_3,AV.sl ((3:Nat)) es Own.no],
 AV.agg
 [AV.str s_3,AV.int IntKind.i64 n_4,AV.int IntKind.i64 n_5,AV.int IntKind.i64 n_6,
 AV.str s_4,AV.str s_5,AV.int IntKind.i64 n_7,AV.sl ((3:Nat)) es_1 Own.no]])
 (AV.bool b_1) [] ∧
 (b_1 = true →
 ∃ (y:Nat),
 ValsAre
 [AV.sl ((8:Nat)) (fcsL a) Own.no,AV.sl ((8:Nat)) (fcsL b) Own.no,
 AV.int IntKind.i64 (IntKind.i64.wrap ((↑x:Int) + (1:Int)))]
 [AV.sl ((8:Nat)) (fcsL a) Own.no,AV.sl ((8:Nat)) (fcsL b) Own.no,
 AV.int IntKind.i64 (↑y:Int)] ∧
 StIs { boxes:=[],live:=[] } { boxes:=[],live:=[] } ∧
 (y≤a.length∧List.take y a = List.take y b)∧a.length - y < a.length - x) ∧
 (b_1 = false→RetIs (AV.bool false) [] (AV.bool (decide (a = b)),[]))) ∧
 (decide ((↑x:Int) < (↑(fcsL a).length:Int)) = false→RetIs (AV.bool true) [] (AV.bool (decide (a = b)),[])))):=by kernel_rfl
theorem wz11 (m:Int) (s t:SdI):(pureW PI (GI m) XSe (tbl [(35,z35)]) (itbl []) nAn [] 11 [.agg (sdC s.nm s.nx 8 (fcsL s.l)),.agg (sdC t.nm t.nx 8 (fcsL t.l))] (.bool (decide (s = t)),[])) =
(((s.nm == t.nm) = true →
    ((s.nx == t.nx) = true →
        ∃ (b:Bool),
 CallIs (tbl [((35:Nat),z35)] ((35:Nat)) [AV.sl ((8:Nat)) (fcsL s.l) Own.no,AV.sl ((8:Nat)) (fcsL t.l) Own.no]) (AV.bool b) [] ∧
 (b = true→RetIs (AV.bool true) [] (AV.bool (decide (s = t)),[]))∧(b = false→RetIs (AV.bool false) [] (AV.bool (decide (s = t)),[]))) ∧
      ((s.nx == t.nx) = false→RetIs (AV.bool false) [] (AV.bool (decide (s = t)),[]))) ∧
  ((s.nm == t.nm) = false→RetIs (AV.bool false) [] (AV.bool (decide (s = t)),[]))):=by kernel_rfl
theorem wz15 (m:Int) (p q:PkI):(pureW PI (GI m) XSe (tbl [(38,z38)]) (itbl []) nAn [] 15 [pkA p,pkA q] (.bool (decide (p = q)),[])) =
(((p.src == q.src) = true →
    (p.ack = true →
        (q.ack = true →
 (true = true →
 ((p.next == q.next) = true →
 ∃ (b:Bool),
 CallIs
 (tbl [((38:Nat),z38)] ((38:Nat))
 [AV.agg
 [AV.str p.f.src,AV.int IntKind.i64 p.f.seq,AV.int IntKind.i64 p.f.kind,AV.int IntKind.i64 p.f.ref,AV.str p.f.table,
 AV.str p.f.key,AV.int IntKind.i64 p.f.event,AV.sl ((3:Nat)) (vasL p.f.fs) Own.no],
 AV.agg
 [AV.str q.f.src,AV.int IntKind.i64 q.f.seq,AV.int IntKind.i64 q.f.kind,AV.int IntKind.i64 q.f.ref,AV.str q.f.table,
 AV.str q.f.key,AV.int IntKind.i64 q.f.event,AV.sl ((3:Nat)) (vasL q.f.fs) Own.no]])
 (AV.bool b) [] ∧
 (b = true→RetIs (AV.bool true) [] (AV.bool (decide (p = q)),[])) ∧
 (b = false→RetIs (AV.bool false) [] (AV.bool (decide (p = q)),[]))) ∧
 ((p.next == q.next) = false→RetIs (AV.bool false) [] (AV.bool (decide (p = q)),[]))) ∧
 (true = false→RetIs (AV.bool false) [] (AV.bool (decide (p = q)),[]))) ∧
 (q.ack = false →
 (false = true →
 ((p.next == q.next) = true →
 ∃ (b:Bool),
 CallIs
 (tbl [((38:Nat),z38)] ((38:Nat))
 [AV.agg
 [AV.str p.f.src,AV.int IntKind.i64 p.f.seq,AV.int IntKind.i64 p.f.kind,AV.int IntKind.i64 p.f.ref,AV.str p.f.table,
 AV.str p.f.key,AV.int IntKind.i64 p.f.event,AV.sl ((3:Nat)) (vasL p.f.fs) Own.no],
 AV.agg
 [AV.str q.f.src,AV.int IntKind.i64 q.f.seq,AV.int IntKind.i64 q.f.kind,AV.int IntKind.i64 q.f.ref,AV.str q.f.table,
 AV.str q.f.key,AV.int IntKind.i64 q.f.event,AV.sl ((3:Nat)) (vasL q.f.fs) Own.no]])
 (AV.bool b) [] ∧
 (b = true→RetIs (AV.bool true) [] (AV.bool (decide (p = q)),[])) ∧
 (b = false→RetIs (AV.bool false) [] (AV.bool (decide (p = q)),[]))) ∧
 ((p.next == q.next) = false→RetIs (AV.bool false) [] (AV.bool (decide (p = q)),[]))) ∧
 (false = false→RetIs (AV.bool false) [] (AV.bool (decide (p = q)),[])))) ∧
      (p.ack = false →
        (q.ack = true →
 (false = true →
 ((p.next == q.next) = true →
 ∃ (b:Bool),
 CallIs
 (tbl [((38:Nat),z38)] ((38:Nat))
 [AV.agg
 [AV.str p.f.src,AV.int IntKind.i64 p.f.seq,AV.int IntKind.i64 p.f.kind,AV.int IntKind.i64 p.f.ref,AV.str p.f.table,
 AV.str p.f.key,AV.int IntKind.i64 p.f.event,AV.sl ((3:Nat)) (vasL p.f.fs) Own.no],
 AV.agg
 [AV.str q.f.src,AV.int IntKind.i64 q.f.seq,AV.int IntKind.i64 q.f.kind,AV.int IntKind.i64 q.f.ref,AV.str q.f.table,
 AV.str q.f.key,AV.int IntKind.i64 q.f.event,AV.sl ((3:Nat)) (vasL q.f.fs) Own.no]])
 (AV.bool b) [] ∧
 (b = true→RetIs (AV.bool true) [] (AV.bool (decide (p = q)),[])) ∧
 (b = false→RetIs (AV.bool false) [] (AV.bool (decide (p = q)),[]))) ∧
 ((p.next == q.next) = false→RetIs (AV.bool false) [] (AV.bool (decide (p = q)),[]))) ∧
 (false = false→RetIs (AV.bool false) [] (AV.bool (decide (p = q)),[]))) ∧
 (q.ack = false →
 (true = true →
 ((p.next == q.next) = true →
 ∃ (b:Bool),
 CallIs
 (tbl [((38:Nat),z38)] ((38:Nat))
 [AV.agg
 [AV.str p.f.src,AV.int IntKind.i64 p.f.seq,AV.int IntKind.i64 p.f.kind,AV.int IntKind.i64 p.f.ref,AV.str p.f.table,
 AV.str p.f.key,AV.int IntKind.i64 p.f.event,AV.sl ((3:Nat)) (vasL p.f.fs) Own.no],
 AV.agg
 [AV.str q.f.src,AV.int IntKind.i64 q.f.seq,AV.int IntKind.i64 q.f.kind,AV.int IntKind.i64 q.f.ref,AV.str q.f.table,
 AV.str q.f.key,AV.int IntKind.i64 q.f.event,AV.sl ((3:Nat)) (vasL q.f.fs) Own.no]])
 (AV.bool b) [] ∧
 (b = true→RetIs (AV.bool true) [] (AV.bool (decide (p = q)),[])) ∧
 (b = false→RetIs (AV.bool false) [] (AV.bool (decide (p = q)),[]))) ∧
 ((p.next == q.next) = false→RetIs (AV.bool false) [] (AV.bool (decide (p = q)),[]))) ∧
 (true = false→RetIs (AV.bool false) [] (AV.bool (decide (p = q)),[]))))) ∧
  ((p.src == q.src) = false→RetIs (AV.bool false) [] (AV.bool (decide (p = q)),[]))):=by kernel_rfl
theorem wz10 (m:Int) (s:List UInt8):(laxW PI (GI m) XSe (tbl [(34,s27)]) (itbl []) nAn [] 10 [.str s] (.tup [sdA (srcP s).1,.int .i64 (srcP s).2],[])) =
(∃ (b:Bool),
  CallIs (tbl [((34:Nat),s27)] ((34:Nat)) [AV.str s]) (AV.bool b) [] ∧
    (b = true →
        RetLax (AV.tup [AV.agg [AV.str s,AV.int IntKind.i64 (1:Int),AV.sl ((0:Nat)) [] Own.nil],AV.int IntKind.i64 (0:Int)])
 (AV.tup
 [AV.agg [AV.str (srcP s).fst.nm,AV.int IntKind.i64 (srcP s).fst.nx,AV.sl ((8:Nat)) (fcsL (srcP s).fst.l) Own.no],
 AV.int IntKind.i64 (srcP s).snd],
 [])) ∧
      (b = false →
        RetLax (AV.tup [AV.agg [AV.str [],AV.int IntKind.i64 (0:Int),AV.sl ((0:Nat)) [] Own.nil],AV.int IntKind.i64 (1:Int)])
 (AV.tup
 [AV.agg [AV.str (srcP s).fst.nm,AV.int IntKind.i64 (srcP s).fst.nx,AV.sl ((8:Nat)) (fcsL (srcP s).fst.l) Own.no],
 AV.int IntKind.i64 (srcP s).snd],
 []))):=by kernel_rfl
theorem wz14 (m:Int) (nm:List UInt8) (nx:Int) (g:FcI) (l:List FcI) (rn:List UInt8) (rx rc:Int) (rl:List FcI) (p:PkI):(laxW PI (GI m) XSe (tbl []) (itbl []) nAn [] 14 [.agg (sdC nm nx 8 (fcsL l)),.agg (fcC g)] (.tup [.agg (sdC rn rx 8 (fcsL rl)),pkA p,.int .i64 rc],[])) =
((decide (nx > (1099511627776:Int)) = true →
    RetLax
      (AV.tup
        [AV.agg [AV.str [],AV.int IntKind.i64 (0:Int),AV.sl ((0:Nat)) [] Own.nil],
 AV.agg
 [AV.str [],AV.bool false,AV.int IntKind.i64 (0:Int),AV.str [],AV.int IntKind.i64 (0:Int),AV.int IntKind.i64 (0:Int),
 AV.int IntKind.i64 (0:Int),AV.str [],AV.str [],AV.int IntKind.i64 (0:Int),AV.sl ((0:Nat)) [] Own.nil],
 AV.int IntKind.i64 (2:Int)])
      (AV.tup
 [AV.agg [AV.str rn,AV.int IntKind.i64 rx,AV.sl ((8:Nat)) (fcsL rl) Own.no],
 AV.agg
 [AV.str p.src,AV.bool p.ack,AV.int IntKind.i64 p.next,AV.str p.f.src,AV.int IntKind.i64 p.f.seq,AV.int IntKind.i64 p.f.kind,
 AV.int IntKind.i64 p.f.ref,AV.str p.f.table,AV.str p.f.key,AV.int IntKind.i64 p.f.event,AV.sl ((3:Nat)) (vasL p.f.fs) Own.no],
 AV.int IntKind.i64 rc],
        [])) ∧
  (decide (nx > (1099511627776:Int)) = false →
    (decide ((↑(fcsL l).length:Int) ≥ (64:Int)) = true →
        RetLax
 (AV.tup
 [AV.agg [AV.str [],AV.int IntKind.i64 (0:Int),AV.sl ((0:Nat)) [] Own.nil],
 AV.agg
 [AV.str [],AV.bool false,AV.int IntKind.i64 (0:Int),AV.str [],AV.int IntKind.i64 (0:Int),AV.int IntKind.i64 (0:Int),
 AV.int IntKind.i64 (0:Int),AV.str [],AV.str [],AV.int IntKind.i64 (0:Int),AV.sl ((0:Nat)) [] Own.nil],
 AV.int IntKind.i64 (410:Int)])
 (AV.tup
 [AV.agg [AV.str rn,AV.int IntKind.i64 rx,AV.sl ((8:Nat)) (fcsL rl) Own.no],
 AV.agg
 [AV.str p.src,AV.bool p.ack,AV.int IntKind.i64 p.next,AV.str p.f.src,AV.int IntKind.i64 p.f.seq,AV.int IntKind.i64 p.f.kind,
 AV.int IntKind.i64 p.f.ref,AV.str p.f.table,AV.str p.f.key,AV.int IntKind.i64 p.f.event,AV.sl ((3:Nat)) (vasL p.f.fs) Own.no],
 AV.int IntKind.i64 rc],
 [])) ∧
      (decide ((↑(fcsL l).length:Int) ≥ (64:Int)) = false →
        ((8:Nat) = (8:Nat)∨([]:List AV) = []) ∧
 ((0:Nat) + (fcsL l).length) * (105:Nat)≤(70368744177664:Nat) ∧
 (fcsL l = [] →
 ((8:Nat) = (8:Nat)∨([]:List AV) = []) ∧
 ((0:Nat) + (1:Nat)) * (105:Nat)≤(70368744177664:Nat) ∧
 RetLax
 (AV.tup
 [AV.agg
 [AV.str nm,AV.int IntKind.i64 (IntKind.i64.wrap (nx + (1:Int))),
 AV.sl ((8:Nat))
 [AV.agg
 [AV.str nm,AV.int IntKind.i64 nx,AV.int IntKind.i64 g.kind,AV.int IntKind.i64 g.ref,AV.str g.table,AV.str g.key,
 AV.int IntKind.i64 g.event,AV.sl ((3:Nat)) (vasL g.fs) Own.no]]
 (Own.tok ((0:Nat)))],
 AV.agg
 [AV.str nm,AV.bool false,AV.int IntKind.i64 (0:Int),AV.str nm,AV.int IntKind.i64 nx,AV.int IntKind.i64 g.kind,
 AV.int IntKind.i64 g.ref,AV.str g.table,AV.str g.key,AV.int IntKind.i64 g.event,AV.sl ((3:Nat)) (vasL g.fs) Own.no],
 AV.int IntKind.i64 (0:Int)])
 (AV.tup
 [AV.agg [AV.str rn,AV.int IntKind.i64 rx,AV.sl ((8:Nat)) (fcsL rl) Own.no],
 AV.agg
 [AV.str p.src,AV.bool p.ack,AV.int IntKind.i64 p.next,AV.str p.f.src,AV.int IntKind.i64 p.f.seq,AV.int IntKind.i64 p.f.kind,
 AV.int IntKind.i64 p.f.ref,AV.str p.f.table,AV.str p.f.key,AV.int IntKind.i64 p.f.event,
 AV.sl ((3:Nat)) (vasL p.f.fs) Own.no],
 AV.int IntKind.i64 rc],
 [])) ∧
 (fcsL l ≠ [] →
 ((8:Nat) = (8:Nat)∨[] ++ fcsL l = []) ∧
 (([] ++ fcsL l).length + (1:Nat)) * (105:Nat)≤(70368744177664:Nat) ∧
 (0:Nat) + (fcsL l).length = ([] ++ fcsL l).length ∧
 RetLax
 (AV.tup
 [AV.agg
 [AV.str nm,AV.int IntKind.i64 (IntKind.i64.wrap (nx + (1:Int))),
 AV.sl ((8:Nat))
 ([] ++ fcsL l ++
 [AV.agg
 [AV.str nm,AV.int IntKind.i64 nx,AV.int IntKind.i64 g.kind,AV.int IntKind.i64 g.ref,AV.str g.table,AV.str g.key,
 AV.int IntKind.i64 g.event,AV.sl ((3:Nat)) (vasL g.fs) Own.no]])
 (Own.tok ((0:Nat)))],
 AV.agg
 [AV.str nm,AV.bool false,AV.int IntKind.i64 (0:Int),AV.str nm,AV.int IntKind.i64 nx,AV.int IntKind.i64 g.kind,
 AV.int IntKind.i64 g.ref,AV.str g.table,AV.str g.key,AV.int IntKind.i64 g.event,AV.sl ((3:Nat)) (vasL g.fs) Own.no],
 AV.int IntKind.i64 (0:Int)])
 (AV.tup
 [AV.agg [AV.str rn,AV.int IntKind.i64 rx,AV.sl ((8:Nat)) (fcsL rl) Own.no],
 AV.agg
 [AV.str p.src,AV.bool p.ack,AV.int IntKind.i64 p.next,AV.str p.f.src,AV.int IntKind.i64 p.f.seq,
 AV.int IntKind.i64 p.f.kind,AV.int IntKind.i64 p.f.ref,AV.str p.f.table,AV.str p.f.key,AV.int IntKind.i64 p.f.event,
 AV.sl ((3:Nat)) (vasL p.f.fs) Own.no],
 AV.int IntKind.i64 rc],
 []))))):=by kernel_rfl
theorem wz17 (m:Int) (nm:List UInt8) (nx:Int) (l:List FcI):(laxW PI (GI m) XSe (tbl []) (itbl []) (az17 nm nx l) [] 17 [.agg (sdC nm nx 8 (fcsL l))] (.sl 11 (pksL (resR nm l)) .no,[])) =
((∃ (y:Nat),
    ValsAre [AV.ptr ((0:Nat)) ((0:Nat)),AV.sl ((11:Nat)) [] (Own.tok (0:Nat)),AV.int IntKind.i64 (0:Int)]
        [AV.ptr ((0:Nat)) ((0:Nat)),AV.sl ((11:Nat)) (pksL (resR nm (List.take y l))) (Own.tok ((0:Nat))),AV.int IntKind.i64 (↑y:Int)] ∧
      StIs { boxes:=[some [AV.str nm,AV.int IntKind.i64 nx,AV.sl ((8:Nat)) (fcsL l) Own.no]],live:=[((0:Nat),(31:Nat))] }
 { boxes:=[some [AV.str nm,AV.int IntKind.i64 nx,AV.sl ((8:Nat)) (fcsL l) Own.no]],live:=[((resR nm (List.take y l)).length,(31:Nat))] } ∧
        y≤l.length∧True) ∧
  ∀ (x:Nat),
    x≤l.length →
      (decide ((↑x:Int) < (↑(fcsL l).length:Int)) = true →
 ((0:Int)≤(↑x:Int)∧(↑x:Int) < (↑(fcsL l).length:Int)) ∧
 ∃ (s:List UInt8),
 ∃ (n:Int),
 ∃ (n_1:Int),
 ∃ (n_2:Int),
 ∃ (s_1:List UInt8),
 ∃ (s_2:List UInt8),
 ∃ (n_3:Int),
 ∃ (es:List AV),
 takeAt PI ((29:Nat)) (fcsL l) (↑x:Int).toNat ((0:Nat)) =
 some
 (AV.agg
 [AV.str s,AV.int IntKind.i64 n,AV.int IntKind.i64 n_1,AV.int IntKind.i64 n_2,AV.str s_1,AV.str s_2,
 AV.int IntKind.i64 n_3,AV.sl ((3:Nat)) es Own.no]) ∧
 ((11:Nat) = (11:Nat)∨pksL (resR nm (List.take x l)) = []) ∧
 ((pksL (resR nm (List.take x l))).length + (1:Nat)) * (137:Nat)≤(70368744177664:Nat) ∧
 (resR nm (List.take x l)).length = (pksL (resR nm (List.take x l))).length ∧
 ∃ (y:Nat),
 ValsAre
 [AV.ptr ((0:Nat)) ((0:Nat)),
 AV.sl ((11:Nat))
 (pksL (resR nm (List.take x l)) ++
 [AV.agg
 [AV.str nm,AV.bool false,AV.int IntKind.i64 (0:Int),AV.str s,AV.int IntKind.i64 n,
 AV.int IntKind.i64 n_1,AV.int IntKind.i64 n_2,AV.str s_1,AV.str s_2,AV.int IntKind.i64 n_3,
 AV.sl ((3:Nat)) es Own.no]])
 (Own.tok ((0:Nat))),
 AV.int IntKind.i64 (IntKind.i64.wrap ((↑x:Int) + (1:Int)))]
 [AV.ptr ((0:Nat)) ((0:Nat)),AV.sl ((11:Nat)) (pksL (resR nm (List.take y l))) (Own.tok ((0:Nat))),
 AV.int IntKind.i64 (↑y:Int)] ∧
 StIs
 { boxes:=[some [AV.str nm,AV.int IntKind.i64 nx,AV.sl ((8:Nat)) (fcsL l) Own.no]],live:=[((pksL (resR nm (List.take x l))).length + (1:Nat),(31:Nat))] }
 { boxes:=[some [AV.str nm,AV.int IntKind.i64 nx,AV.sl ((8:Nat)) (fcsL l) Own.no]],live:=[((resR nm (List.take y l)).length,(31:Nat))] } ∧
 y≤l.length∧l.length - y < l.length - x) ∧
        (decide ((↑x:Int) < (↑(fcsL l).length:Int)) = false →
 RetLax (AV.sl ((11:Nat)) (pksL (resR nm (List.take x l))) (Own.tok ((0:Nat)))) (AV.sl ((11:Nat)) (pksL (resR nm l)) Own.no,[]))):=by kernel_rfl
theorem wz19 (m:Int) (nm src fsrc tab key:List UInt8) (nx pn seq kind ref ev:Int) (ack:Bool) (fs:List AV) (l:List FcI) (rn:List UInt8) (rx rc:Int) (rl:List FcI):(laxW PI (GI m) XSe (tbl []) (itbl []) (az19 nm src nx l (pkD src ack pn fsrc seq kind ref tab key ev fs) pn) [] 19 [.agg (sdC nm nx 8 (fcsL l)),.agg (pkD src ack pn fsrc seq kind ref tab key ev fs)] (.tup [.agg (sdC rn rx 8 (fcsL rl)),.int .i64 rc],[])) =
((ack = true →
    ((!src == nm) = true →
        RetLax (AV.tup [AV.agg [AV.str [],AV.int IntKind.i64 (0:Int),AV.sl ((0:Nat)) [] Own.nil],AV.int IntKind.i64 (1:Int)])
 (AV.tup [AV.agg [AV.str rn,AV.int IntKind.i64 rx,AV.sl ((8:Nat)) (fcsL rl) Own.no],AV.int IntKind.i64 rc],[])) ∧
      ((!src == nm) = false →
        (decide (pn < (1:Int)) = true →
 RetLax (AV.tup [AV.agg [AV.str [],AV.int IntKind.i64 (0:Int),AV.sl ((0:Nat)) [] Own.nil],AV.int IntKind.i64 (1:Int)])
 (AV.tup [AV.agg [AV.str rn,AV.int IntKind.i64 rx,AV.sl ((8:Nat)) (fcsL rl) Own.no],AV.int IntKind.i64 rc],[])) ∧
 (decide (pn < (1:Int)) = false →
 (decide (pn > nx) = true →
 RetLax (AV.tup [AV.agg [AV.str [],AV.int IntKind.i64 (0:Int),AV.sl ((0:Nat)) [] Own.nil],AV.int IntKind.i64 (1:Int)])
 (AV.tup [AV.agg [AV.str rn,AV.int IntKind.i64 rx,AV.sl ((8:Nat)) (fcsL rl) Own.no],AV.int IntKind.i64 rc],[])) ∧
 (decide (pn > nx) = false →
 (∃ (y:Nat),
 ValsAre
 [AV.ptr ((0:Nat)) ((0:Nat)),AV.ptr ((1:Nat)) ((0:Nat)),AV.ptr ((2:Nat)) ((0:Nat)),AV.ptr ((3:Nat)) ((0:Nat)),
 AV.int IntKind.i64 (0:Int)]
 [AV.ptr ((0:Nat)) ((0:Nat)),AV.ptr ((1:Nat)) ((0:Nat)),AV.ptr ((2:Nat)) ((0:Nat)),AV.ptr ((3:Nat)) ((0:Nat)),
 AV.int IntKind.i64 (↑y:Int)] ∧
 StIs
 { boxes:=[some [AV.str nm,AV.int IntKind.i64 nx,AV.sl ((8:Nat)) (fcsL l) Own.no],some [AV.str src,AV.bool ack,AV.int IntKind.i64 pn,AV.str fsrc,AV.int IntKind.i64 seq,AV.int IntKind.i64 kind,AV.int IntKind.i64 ref,AV.str tab,AV.str key,AV.int IntKind.i64 ev,AV.sl ((3:Nat)) fs Own.no],some [AV.str [],AV.int IntKind.i64 (0:Int),AV.sl ((0:Nat)) [] Own.nil],some [AV.str nm,AV.int IntKind.i64 nx,AV.sl ((8:Nat)) [] (Own.tok (0:Nat))]],live:=[((0:Nat),(29:Nat))] }
 { boxes:=[some [AV.str nm,AV.int IntKind.i64 nx,AV.sl ((8:Nat)) (fcsL l) Own.no],some [AV.str src,AV.bool ack,AV.int IntKind.i64 pn,AV.str fsrc,AV.int IntKind.i64 seq,AV.int IntKind.i64 kind,AV.int IntKind.i64 ref,AV.str tab,AV.str key,AV.int IntKind.i64 ev,AV.sl ((3:Nat)) fs Own.no],some [AV.str [],AV.int IntKind.i64 (0:Int),AV.sl ((0:Nat)) [] Own.nil],some [AV.str nm,AV.int IntKind.i64 nx,AV.sl ((8:Nat)) (fcsL (List.filter (keepF pn) (List.take y l))) (Own.tok ((0:Nat)))]],live:=[((List.filter (keepF pn) (List.take y l)).length,(29:Nat))] } ∧
 y≤l.length∧True) ∧
 ∀ (x:Nat),
 x≤l.length →
 (decide ((↑x:Int) < (↑(fcsL l).length:Int)) = true →
 ((0:Int)≤(↑x:Int)∧(↑x:Int) < (↑(fcsL l).length:Int)) ∧
 ∃ (n:Int),
 takeAt PI ((3:Nat)) (fcsL l) (↑x:Int).toNat ((1:Nat)) = some (AV.int IntKind.i64 n) ∧
 (decide (n ≥ pn) = true →
 ((0:Int)≤(↑x:Int)∧(↑x:Int) < (↑(fcsL l).length:Int)) ∧
 ∃ (s:List UInt8),
 ∃ (n:Int),
 ∃ (n_1:Int),
 ∃ (n_2:Int),
 ∃ (s_1:List UInt8),
 ∃ (s_2:List UInt8),
 ∃ (n_3:Int),
 ∃ (es:List AV),
 takeAt PI ((29:Nat)) (fcsL l) (↑x:Int).toNat ((0:Nat)) =
 some
 (AV.agg
 [AV.str s,AV.int IntKind.i64 n,AV.int IntKind.i64 n_1,AV.int IntKind.i64 n_2,AV.str s_1,
 AV.str s_2,AV.int IntKind.i64 n_3,AV.sl ((3:Nat)) es Own.no]) ∧
 ((8:Nat) = (8:Nat)∨fcsL (List.filter (keepF pn) (List.take x l)) = []) ∧
 ((fcsL (List.filter (keepF pn) (List.take x l))).length + (1:Nat)) * (105:Nat) ≤
 (70368744177664:Nat) ∧
 (List.filter (keepF pn) (List.take x l)).length =
 (fcsL (List.filter (keepF pn) (List.take x l))).length ∧
 ∃ (y:Nat),
 ValsAre
 [AV.ptr ((0:Nat)) ((0:Nat)),AV.ptr ((1:Nat)) ((0:Nat)),
 AV.ptr ((2:Nat)) ((0:Nat)),AV.ptr ((3:Nat)) ((0:Nat)),
 AV.int IntKind.i64 (IntKind.i64.wrap ((↑x:Int) + (1:Int)))]
 [AV.ptr ((0:Nat)) ((0:Nat)),AV.ptr ((1:Nat)) ((0:Nat)),
 AV.ptr ((2:Nat)) ((0:Nat)),AV.ptr ((3:Nat)) ((0:Nat)),
 AV.int IntKind.i64 (↑y:Int)] ∧
 StIs
 { boxes:=[some [AV.str nm,AV.int IntKind.i64 nx,AV.sl ((8:Nat)) (fcsL l) Own.no],some [AV.str src,AV.bool ack,AV.int IntKind.i64 pn,AV.str fsrc,AV.int IntKind.i64 seq,AV.int IntKind.i64 kind,AV.int IntKind.i64 ref,AV.str tab,AV.str key,AV.int IntKind.i64 ev,AV.sl ((3:Nat)) fs Own.no],some [AV.str [],AV.int IntKind.i64 (0:Int),AV.sl ((0:Nat)) [] Own.nil],some [AV.str nm,AV.int IntKind.i64 nx,AV.sl ((8:Nat)) (fcsL (List.filter (keepF pn) (List.take x l)) ++ [AV.agg [AV.str s,AV.int IntKind.i64 n,AV.int IntKind.i64 n_1,AV.int IntKind.i64 n_2,AV.str s_1,AV.str s_2,AV.int IntKind.i64 n_3,AV.sl ((3:Nat)) es Own.no]]) (Own.tok ((0:Nat)))]],live:=[((fcsL (List.filter (keepF pn) (List.take x l))).length + (1:Nat),(29:Nat))] }
 { boxes:=[some [AV.str nm,AV.int IntKind.i64 nx,AV.sl ((8:Nat)) (fcsL l) Own.no],some [AV.str src,AV.bool ack,AV.int IntKind.i64 pn,AV.str fsrc,AV.int IntKind.i64 seq,AV.int IntKind.i64 kind,AV.int IntKind.i64 ref,AV.str tab,AV.str key,AV.int IntKind.i64 ev,AV.sl ((3:Nat)) fs Own.no],some [AV.str [],AV.int IntKind.i64 (0:Int),AV.sl ((0:Nat)) [] Own.nil],some [AV.str nm,AV.int IntKind.i64 nx,AV.sl ((8:Nat)) (fcsL (List.filter (keepF pn) (List.take y l))) (Own.tok ((0:Nat)))]],live:=[((List.filter (keepF pn) (List.take y l)).length,(29:Nat))] } ∧
 y≤l.length∧l.length - y < l.length - x) ∧
 (decide (n ≥ pn) = false →
 ∃ (y:Nat),
 ValsAre
 [AV.ptr ((0:Nat)) ((0:Nat)),AV.ptr ((1:Nat)) ((0:Nat)),AV.ptr ((2:Nat)) ((0:Nat)),
 AV.ptr ((3:Nat)) ((0:Nat)),AV.int IntKind.i64 (IntKind.i64.wrap ((↑x:Int) + (1:Int)))]
 [AV.ptr ((0:Nat)) ((0:Nat)),AV.ptr ((1:Nat)) ((0:Nat)),AV.ptr ((2:Nat)) ((0:Nat)),
 AV.ptr ((3:Nat)) ((0:Nat)),AV.int IntKind.i64 (↑y:Int)] ∧
 StIs
 { boxes:=[some [AV.str nm,AV.int IntKind.i64 nx,AV.sl ((8:Nat)) (fcsL l) Own.no],some [AV.str src,AV.bool ack,AV.int IntKind.i64 pn,AV.str fsrc,AV.int IntKind.i64 seq,AV.int IntKind.i64 kind,AV.int IntKind.i64 ref,AV.str tab,AV.str key,AV.int IntKind.i64 ev,AV.sl ((3:Nat)) fs Own.no],some [AV.str [],AV.int IntKind.i64 (0:Int),AV.sl ((0:Nat)) [] Own.nil],some [AV.str nm,AV.int IntKind.i64 nx,AV.sl ((8:Nat)) (fcsL (List.filter (keepF pn) (List.take x l))) (Own.tok ((0:Nat)))]],live:=[((List.filter (keepF pn) (List.take x l)).length,(29:Nat))] }
 { boxes:=[some [AV.str nm,AV.int IntKind.i64 nx,AV.sl ((8:Nat)) (fcsL l) Own.no],some [AV.str src,AV.bool ack,AV.int IntKind.i64 pn,AV.str fsrc,AV.int IntKind.i64 seq,AV.int IntKind.i64 kind,AV.int IntKind.i64 ref,AV.str tab,AV.str key,AV.int IntKind.i64 ev,AV.sl ((3:Nat)) fs Own.no],some [AV.str [],AV.int IntKind.i64 (0:Int),AV.sl ((0:Nat)) [] Own.nil],some [AV.str nm,AV.int IntKind.i64 nx,AV.sl ((8:Nat)) (fcsL (List.filter (keepF pn) (List.take y l))) (Own.tok ((0:Nat)))]],live:=[((List.filter (keepF pn) (List.take y l)).length,(29:Nat))] } ∧
 y≤l.length∧l.length - y < l.length - x)) ∧
 (decide ((↑x:Int) < (↑(fcsL l).length:Int)) = false →
 RetLax
 (AV.tup
 [AV.agg
 [AV.str nm,AV.int IntKind.i64 nx,AV.sl ((8:Nat)) (fcsL (List.filter (keepF pn) (List.take x l))) (Own.tok ((0:Nat)))],
 AV.int IntKind.i64 (0:Int)])
 (AV.tup [AV.agg [AV.str rn,AV.int IntKind.i64 rx,AV.sl ((8:Nat)) (fcsL rl) Own.no],AV.int IntKind.i64 rc],[])))))) ∧
  (ack = false →
    RetLax (AV.tup [AV.agg [AV.str [],AV.int IntKind.i64 (0:Int),AV.sl ((0:Nat)) [] Own.nil],AV.int IntKind.i64 (1:Int)])
      (AV.tup [AV.agg [AV.str rn,AV.int IntKind.i64 rx,AV.sl ((8:Nat)) (fcsL rl) Own.no],AV.int IntKind.i64 rc],[]))):=by kernel_rfl
theorem wz25 (m:Int) (s:SdI):(pureW PI (GI m) XSe (tbl [(34,s27)]) (itbl []) (az25 s) [] 25 [.agg (sdC s.nm s.nx 8 (fcsL s.l))] (.bool (sndOk s),[])) =
(∃ (b:Bool),
  CallIs (tbl [((34:Nat),s27)] ((34:Nat)) [AV.str s.nm]) (AV.bool b) [] ∧
    (b = true →
        (decide (s.nx < (1:Int)) = true→RetIs (AV.bool false) [] (AV.bool (sndOk s),[])) ∧
 (decide (s.nx < (1:Int)) = false →
 (decide (s.nx > (1099511627777:Int)) = true→RetIs (AV.bool false) [] (AV.bool (sndOk s),[])) ∧
 (decide (s.nx > (1099511627777:Int)) = false →
 (decide ((↑(fcsL s.l).length:Int) > (64:Int)) = true→RetIs (AV.bool false) [] (AV.bool (sndOk s),[])) ∧
 (decide ((↑(fcsL s.l).length:Int) > (64:Int)) = false →
 (∃ (y:Nat),
 ValsAre [AV.ptr ((0:Nat)) ((0:Nat)),AV.int IntKind.i64 (0:Int)] [AV.ptr ((0:Nat)) ((0:Nat)),AV.int IntKind.i64 (↑y:Int)] ∧
 StIs { boxes:=[some [AV.str s.nm,AV.int IntKind.i64 s.nx,AV.sl ((8:Nat)) (fcsL s.l) Own.no]],live:=[] }
 { boxes:=[some [AV.str s.nm,AV.int IntKind.i64 s.nx,AV.sl ((8:Nat)) (fcsL s.l) Own.no]],live:=[] } ∧
 (y≤s.l.length ∧
 chkS s.nm (s.nx - (↑s.l.length:Int)) s.l = chkS s.nm (s.nx - (↑s.l.length:Int) + (↑y:Int)) (List.drop y s.l)) ∧
 True) ∧
 ∀ (x:Nat),
 x≤s.l.length∧chkS s.nm (s.nx - (↑s.l.length:Int)) s.l = chkS s.nm (s.nx - (↑s.l.length:Int) + (↑x:Int)) (List.drop x s.l) →
 (decide ((↑x:Int) < (↑(fcsL s.l).length:Int)) = true →
 ((0:Int)≤(↑x:Int)∧(↑x:Int) < (↑(fcsL s.l).length:Int)) ∧
 ∃ (s_1:List UInt8),
 ∃ (n:Int),
 takeAt PI ((26:Nat)) (fcsL s.l) (↑x:Int).toNat ((0:Nat)) = some (AV.agg [AV.str s_1,AV.int IntKind.i64 n]) ∧
 ((!(s_1 == s.nm && (n == IntKind.i64.wrap (IntKind.i64.wrap (s.nx - (↑(fcsL s.l).length:Int)) + (↑x:Int)) && true))) =
 true →
 RetIs (AV.bool false) [] (AV.bool (sndOk s),[])) ∧
 ((!(s_1 == s.nm &&
 (n == IntKind.i64.wrap (IntKind.i64.wrap (s.nx - (↑(fcsL s.l).length:Int)) + (↑x:Int)) && true))) =
 false →
 (decide (IntKind.i64.wrap (IntKind.i64.wrap (s.nx - (↑(fcsL s.l).length:Int)) + (↑x:Int)) < (1:Int)) = true →
 RetIs (AV.bool false) [] (AV.bool (sndOk s),[])) ∧
 (decide (IntKind.i64.wrap (IntKind.i64.wrap (s.nx - (↑(fcsL s.l).length:Int)) + (↑x:Int)) < (1:Int)) = false →
 ∃ (y:Nat),
 ValsAre [AV.ptr ((0:Nat)) ((0:Nat)),AV.int IntKind.i64 (IntKind.i64.wrap ((↑x:Int) + (1:Int)))]
 [AV.ptr ((0:Nat)) ((0:Nat)),AV.int IntKind.i64 (↑y:Int)] ∧
 StIs
 { boxes:=[some [AV.str s.nm,AV.int IntKind.i64 s.nx,AV.sl ((8:Nat)) (fcsL s.l) Own.no]],live:=[] }
 { boxes:=[some [AV.str s.nm,AV.int IntKind.i64 s.nx,AV.sl ((8:Nat)) (fcsL s.l) Own.no]],live:=[] } ∧
 (y≤s.l.length ∧
 chkS s.nm (s.nx - (↑s.l.length:Int)) s.l =
 chkS s.nm (s.nx - (↑s.l.length:Int) + (↑y:Int)) (List.drop y s.l)) ∧
 s.l.length - y < s.l.length - x))) ∧
 (decide ((↑x:Int) < (↑(fcsL s.l).length:Int)) = false→RetIs (AV.bool true) [] (AV.bool (sndOk s),[])))))) ∧
      (b = false→RetIs (AV.bool false) [] (AV.bool (sndOk s),[]))):=by kernel_rfl
theorem wz12 (m:Int) (s:SdI):(pureW PI (GI m) XSe (tbl [(8,s9),(25,z25)]) (itbl []) (az12 s) [] 12 [.agg (sdC s.nm s.nx 8 (fcsL s.l))] (.bool (decide (s.l.length≤64) && s.l.all smallB && sndOk s),[])) =
((decide ((↑(fcsL s.l).length:Int) > (64:Int)) = true →
    RetIs (AV.bool false) [] (AV.bool (decide (s.l.length≤(64:Nat)) && s.l.all smallB && sndOk s),[])) ∧
  (decide ((↑(fcsL s.l).length:Int) > (64:Int)) = false →
    (∃ (y : Nat),
        ValsAre [AV.ptr ((0:Nat)) ((0:Nat)),AV.int IntKind.i64 (0:Int)] [AV.ptr ((0:Nat)) ((0:Nat)),AV.int IntKind.i64 (↑y:Int)] ∧
 StIs { boxes:=[some [AV.str s.nm,AV.int IntKind.i64 s.nx,AV.sl ((8:Nat)) (fcsL s.l) Own.no]],live:=[] }
 { boxes:=[some [AV.str s.nm,AV.int IntKind.i64 s.nx,AV.sl ((8:Nat)) (fcsL s.l) Own.no]],live:=[] } ∧
 (y≤s.l.length∧(List.take y s.l).all smallB = true)∧True) ∧
      ∀ (x:Nat),
        x≤s.l.length∧(List.take x s.l).all smallB = true →
 (decide ((↑x:Int) < (↑(fcsL s.l).length:Int)) = true →
 ((0:Int)≤(↑x:Int)∧(↑x:Int) < (↑(fcsL s.l).length:Int)) ∧
 ∃ (s_1:List UInt8),
 ∃ (n:Int),
 ∃ (n_1:Int),
 ∃ (n_2:Int),
 ∃ (s_2:List UInt8),
 ∃ (s_3:List UInt8),
 ∃ (n_3:Int),
 ∃ (es:List AV),
 takeAt PI ((29:Nat)) (fcsL s.l) (↑x:Int).toNat ((0:Nat)) =
 some
 (AV.agg
 [AV.str s_1,AV.int IntKind.i64 n,AV.int IntKind.i64 n_1,AV.int IntKind.i64 n_2,AV.str s_2,AV.str s_3,
 AV.int IntKind.i64 n_3,AV.sl ((3:Nat)) es Own.no]) ∧
 ∃ (b:Bool),
 CallIs
 (tbl [((8:Nat),s9),((25:Nat),z25)] ((8:Nat))
 [AV.agg
 [AV.str s_1,AV.int IntKind.i64 n,AV.int IntKind.i64 n_1,AV.int IntKind.i64 n_2,AV.str s_2,AV.str s_3,
 AV.int IntKind.i64 n_3,AV.sl ((3:Nat)) es Own.no]])
 (AV.bool b) [] ∧
 (b = true →
 ∃ (y:Nat),
 ValsAre [AV.ptr ((0:Nat)) ((0:Nat)),AV.int IntKind.i64 (IntKind.i64.wrap ((↑x:Int) + (1:Int)))]
 [AV.ptr ((0:Nat)) ((0:Nat)),AV.int IntKind.i64 (↑y:Int)] ∧
 StIs { boxes:=[some [AV.str s.nm,AV.int IntKind.i64 s.nx,AV.sl ((8:Nat)) (fcsL s.l) Own.no]],live:=[] }
 { boxes:=[some [AV.str s.nm,AV.int IntKind.i64 s.nx,AV.sl ((8:Nat)) (fcsL s.l) Own.no]],live:=[] } ∧
 (y≤s.l.length∧(List.take y s.l).all smallB = true)∧s.l.length - y < s.l.length - x) ∧
 (b = false→RetIs (AV.bool false) [] (AV.bool (decide (s.l.length≤(64:Nat)) && s.l.all smallB && sndOk s),[]))) ∧
 (decide ((↑x:Int) < (↑(fcsL s.l).length:Int)) = false →
 ∃ (b:Bool),
 CallIs
 (tbl [((8:Nat),s9),((25:Nat),z25)] ((25:Nat)) [AV.agg [AV.str s.nm,AV.int IntKind.i64 s.nx,AV.sl ((8:Nat)) (fcsL s.l) Own.no]])
 (AV.bool b) [] ∧
 (b = true→RetIs (AV.bool true) [] (AV.bool (decide (s.l.length≤(64:Nat)) && s.l.all smallB && sndOk s),[])) ∧
 (b = false→RetIs (AV.bool false) [] (AV.bool (decide (s.l.length≤(64:Nat)) && s.l.all smallB && sndOk s),[]))))):=by kernel_rfl
end Go.Abs
namespace Go.Abs
open Go.Proofs Go.RowKit
theorem agg78:aggA PI 78 = some true:=by kernel_rfl
theorem size78:sizeA PI 78 = some 3:=by kernel_rfl
theorem take_va {l:List VaI} {i:Nat} (h:i < l.length):takeAt PI 78 (vasL l) i 0 = some (vaA l[i]):=by
 simp only [takeAt,List.getElem?_map,List.getElem?_eq_getElem h,Option.map_some,takeA,agg78,size78]
 rfl
theorem take_seq {l:List FcI} {i:Nat} (h:i < l.length):takeAt PI 3 (fcsL l) i 1 = some (.int .i64 l[i].seq):=by
 simp only [takeAt,List.getElem?_map,List.getElem?_eq_getElem h,Option.map_some,takeA,agg3i,size3i]
 rfl
theorem take_id {l:List FcI} {i:Nat} (h:i < l.length):takeAt PI 26 (fcsL l) i 0 = some (.agg [.str l[i].src,.int .i64 l[i].seq]):=by
 simp only [takeAt,List.getElem?_map,List.getElem?_eq_getElem h,Option.map_some,takeA,agg30,size30]
 rfl
theorem unS_ok (s:SdI):unS (sdA s) = some s:=by
 unfold sdA unS
 simp only [if_true,unGs_ok,Option.map_some]
theorem unS_inv {a:AV} {s:SdI} (h:unS a = some s):a = sdA s:=by
 unfold unS at h
 split at h
 ·split at h
  ·rename_i hz
   subst hz
   simp only [Option.map_eq_some_iff] at h
   obtain ⟨l,hl,rfl⟩:=h
   obtain rfl:=unGs_inv hl
   rfl
  ·cases h
 ·cases h
theorem unK_ok (p:PkI):unK (pkA p) = some p:=by
 unfold pkA unK
 simp only [if_true]
 rw [show unL unV (vasL p.f.fs) = some p.f.fs from unL_map unV_ok p.f.fs]
 rfl
theorem unK_inv {a:AV} {p:PkI} (h:unK a = some p):a = pkA p:=by
 unfold unK at h
 split at h
 ·split at h
  ·rename_i hz
   subst hz
   simp only [Option.map_eq_some_iff] at h
   obtain ⟨l,hl,rfl⟩:=h
   obtain rfl:=unL_inv unV_inv hl
   rfl
  ·cases h
 ·cases h
theorem va_ext {p q:VaI} (h1:p.k = q.k) (h2:p.n = q.n) (h3:p.s = q.s):p = q:=by
 cases p; cases q; simp_all
theorem pz61 (m:Int) (a b:List VaI) (hl:a.length≤140737488351232):PureOk PI (GI m) XSe (tbl []) (itbl []) (az61 a b) [] 61 [.sl 3 (vasL a) .no,.sl 3 (vasL b) .no] (.bool (decide (a = b)),[]):=by
 constructor
 rw [wz61]
 have hla:(vasL a).length = a.length:=List.length_map ..
 have hlb:(vasL b).length = b.length:=List.length_map ..
 rw [hla,hlb]
 refine ⟨fun h=>⟨?_⟩,fun h=>⟨⟨0,⟨rfl⟩,⟨rfl⟩,⟨Nat.zero_le _,rfl⟩,trivial⟩,fun x ⟨hx,ht⟩=>⟨fun h2=>?_,fun h2=>⟨?_⟩⟩⟩⟩
 ·rw [decide_eq_false]
  rintro rfl
  simp at h
 ·have hlen:a.length = b.length:=by simp at h; omega
  have h2:=of_decide_eq_true h2
  have hxa:x < a.length:=by omega
  have hxb:x < b.length:=by omega
  refine ⟨⟨by omega,by omega⟩,_,_,_,by rw [Int.toNat_natCast]; exact take_va hxa,⟨by omega,by omega⟩,_,_,_,by rw [Int.toNat_natCast]; exact take_va hxb,fun h3=>⟨?_⟩,fun h3=>⟨x + 1,⟨by rw [wrap64_in (n:=(x:Int) + 1) (by omega) (by omega)]; simp⟩,⟨rfl⟩,⟨by omega,?_⟩,by omega⟩⟩
  ·rw [decide_eq_false]
   exact ne_of_at (List.getElem?_eq_getElem hxa) (List.getElem?_eq_getElem hxb) fun e=>by rw [e] at h3; simp at h3
  ·have e:a[x] = b[x]:=by
    simp at h3
    exact va_ext h3.1 h3.2.1 h3.2.2
   exact take_next (List.getElem?_eq_getElem hxa) (by rw [List.getElem?_eq_getElem hxb,e]) ht
 ·have hlen:a.length = b.length:=by simp at h; omega
  have h2:=of_decide_eq_false h2
  have hxe:x = a.length:=by omega
  rw [hxe,List.take_length,hlen,List.take_length] at ht
  rw [decide_eq_true ht]
theorem oz61 (m:Int):SpecOk PI (GI m) 61 z61:=spec_of (X:=XSe) (m:=[]) mixedI tbl_nil itbl_nil fun args r h=>by
 unfold z61 at h
 split at h
 case h_2=>cases h
 split at h
 case isFalse=>cases h
 rename_i hz
 obtain ⟨rfl,rfl⟩:=hz
 split at h
 case h_2=>cases h
 rename_i a b ha hb
 split at h
 case isFalse=>cases h
 rename_i hc
 injection h with h; subst h
 obtain rfl:=unL_inv unV_inv ha
 obtain rfl:=unL_inv unV_inv hb
 exact ⟨_,pz61 m a b hc⟩
theorem cy61 {a b:List VaI} (h:a.length≤140737488351232):z61 [.sl 3 (vasL a) .no,.sl 3 (vasL b) .no] = some (.bool (decide (a = b)),[]):=by
 simp only [z61,and_self,if_true]
 rw [show unL unV (vasL a) = some a from unL_map unV_ok a,show unL unV (vasL b) = some b from unL_map unV_ok b]
 simp only
 rw [if_pos h]
theorem fc_ext {p q:FcI} (h0:p.src = q.src) (h1:p.seq = q.seq) (h2:p.kind = q.kind) (h3:p.ref = q.ref) (h4:p.table = q.table) (h5:p.key = q.key) (h6:p.event = q.event) (h7:p.fs = q.fs):p = q:=by
 cases p; cases q; simp_all
theorem pz38 (m:Int) (f g:FcI) (hl:f.fs.length≤140737488351232):PureOk PI (GI m) XSe (tbl [(61,z61)]) (itbl []) nAn [] 38 [.agg (fcC f),.agg (fcC g)] (.bool (decide (f = g)),[]):=by
 constructor
 rw [wz38]
 refine ⟨fun h0=>⟨fun h1=>⟨fun h2=>⟨fun h3=>⟨fun h4=>⟨fun h5=>⟨decide (f.fs = g.fs),⟨by rw [tbl_hit]; exact cy61 hl⟩,fun h6=>⟨?_⟩,fun h6=>⟨?_⟩⟩,fun h5=>⟨?_⟩⟩,fun h4=>⟨?_⟩⟩,fun h3=>⟨?_⟩⟩,fun h2=>⟨?_⟩⟩,fun h1=>⟨?_⟩⟩,fun h0=>⟨?_⟩⟩
 ·have h0':f.src = g.src∧f.seq = g.seq:=by simpa using h0
  rw [decide_eq_true (fc_ext h0'.1 h0'.2 (by simpa using h1) (by simpa using h2) (by simpa using h3) (by simpa using h4) (by simpa using h5) (of_decide_eq_true h6))]
 ·rw [decide_eq_false]; rintro rfl; simp at h6
 ·rw [decide_eq_false]; rintro rfl; simp at h5
 ·rw [decide_eq_false]; rintro rfl; simp at h4
 ·rw [decide_eq_false]; rintro rfl; simp at h3
 ·rw [decide_eq_false]; rintro rfl; simp at h2
 ·rw [decide_eq_false]; rintro rfl; simp at h1
 ·rw [decide_eq_false]; rintro rfl; simp at h0
theorem oz38 (m:Int):SpecOk PI (GI m) 38 z38:=spec_of (X:=XSe) (m:=[]) mixedI (tbl_cons (oz61 m) tbl_nil) itbl_nil fun args r h=>by
 unfold z38 at h
 split at h
 case h_2=>cases h
 rename_i a b
 split at h
 case h_2=>cases h
 rename_i f g hf hg
 split at h
 case isFalse=>cases h
 rename_i hc
 injection h with h; subst h
 obtain rfl:=unG_inv _ _ hf
 obtain rfl:=unG_inv _ _ hg
 exact ⟨_,pz38 m f g hc⟩
theorem cy38 {f g:FcI} (h:f.fs.length≤140737488351232):z38 [.agg (fcC f),.agg (fcC g)] = some (.bool (decide (f = g)),[]):=by
 have h1:unG (.agg (fcC f)) = some f:=unG_ok f
 have h2:unG (.agg (fcC g)) = some g:=unG_ok g
 simp only [z38]
 rw [h1,h2]
 simp only
 rw [if_pos h]
theorem pz35 (m:Int) (a b:List FcI) (hl:a.length≤2000000) (hf:∀ f ∈ a,f.fs.length≤140737488351232):PureOk PI (GI m) XSe (tbl [(38,z38)]) (itbl []) (az35 a b) [] 35 [.sl 8 (fcsL a) .no,.sl 8 (fcsL b) .no] (.bool (decide (a = b)),[]):=by
 constructor
 rw [wz35]
 have hla:(fcsL a).length = a.length:=List.length_map ..
 have hlb:(fcsL b).length = b.length:=List.length_map ..
 rw [hla,hlb]
 refine ⟨fun h=>⟨?_⟩,fun h=>⟨⟨0,⟨rfl⟩,⟨rfl⟩,⟨Nat.zero_le _,rfl⟩,trivial⟩,fun x ⟨hx,ht⟩=>⟨fun h2=>?_,fun h2=>⟨?_⟩⟩⟩⟩
 ·rw [decide_eq_false]
  rintro rfl
  simp at h
 ·have hlen:a.length = b.length:=by simp at h; omega
  have h2:=of_decide_eq_true h2
  have hxa:x < a.length:=by omega
  have hxb:x < b.length:=by omega
  refine ⟨⟨by omega,by omega⟩,_,_,_,_,_,_,_,_,by rw [Int.toNat_natCast]; exact take_f hxa,⟨by omega,by omega⟩,_,_,_,_,_,_,_,_,by rw [Int.toNat_natCast]; exact take_f hxb,decide (a[x] = b[x]),⟨by rw [tbl_hit]; exact cy38 (hf _ (List.getElem_mem hxa))⟩,fun h3=>⟨x + 1,⟨by rw [wrapN (by omega)]⟩,⟨rfl⟩,⟨by omega,?_⟩,by omega⟩,fun h3=>⟨?_⟩⟩
  ·have e:=of_decide_eq_true h3
   exact take_next (List.getElem?_eq_getElem hxa) (by rw [List.getElem?_eq_getElem hxb,e]) ht
  ·rw [decide_eq_false]
   exact ne_of_at (List.getElem?_eq_getElem hxa) (List.getElem?_eq_getElem hxb) (of_decide_eq_false h3)
 ·have hlen:a.length = b.length:=by simp at h; omega
  have h2:=of_decide_eq_false h2
  have hxe:x = a.length:=by omega
  rw [hxe,List.take_length,hlen,List.take_length] at ht
  rw [decide_eq_true ht]
theorem oz35 (m:Int):SpecOk PI (GI m) 35 z35:=spec_of (X:=XSe) (m:=[]) mixedI (tbl_cons (oz38 m) tbl_nil) itbl_nil fun args r h=>by
 unfold z35 at h
 split at h
 case h_2=>cases h
 split at h
 case isFalse=>cases h
 rename_i hz
 obtain ⟨rfl,rfl⟩:=hz
 split at h
 case h_2=>cases h
 rename_i a b ha hb
 split at h
 case isFalse=>cases h
 rename_i hc
 injection h with h; subst h
 obtain rfl:=unGs_inv ha
 obtain rfl:=unGs_inv hb
 exact ⟨_,pz35 m a b hc.1 fun f hf=>by simpa using List.all_eq_true.1 hc.2 f hf⟩
theorem cy35 {a b:List FcI} (h:a.length≤2000000) (hf:(a.all fun f=>decide (f.fs.length≤140737488351232)) = true):z35 [.sl 8 (fcsL a) .no,.sl 8 (fcsL b) .no] = some (.bool (decide (a = b)),[]):=by
 simp only [z35,and_self,if_true,unGs_ok]
 rw [if_pos ⟨h,hf⟩]
theorem oz11 (m:Int):SpecOk PI (GI m) 11 z11:=spec_of (X:=XSe) (m:=[]) mixedI (tbl_cons (oz35 m) tbl_nil) itbl_nil fun args r h=>by
 unfold z11 at h
 split at h
 case h_2=>cases h
 split at h
 case h_2=>cases h
 rename_i s t hs ht
 split at h
 case isFalse=>cases h
 rename_i hc
 injection h with h; subst h
 obtain rfl:=unS_inv hs
 obtain rfl:=unS_inv ht
 refine ⟨nAn,⟨?_⟩⟩
 unfold sdA
 rw [wz11]
 refine ⟨fun h0=>⟨fun h1=>⟨decide (s.l = t.l),⟨by rw [tbl_hit]; exact cy35 hc.1 hc.2⟩,fun h2=>⟨?_⟩,fun h2=>⟨?_⟩⟩,fun h1=>⟨?_⟩⟩,fun h0=>⟨?_⟩⟩
 ·have h0:s.nm = t.nm:=by simpa using h0
  have h1:s.nx = t.nx:=by simpa using h1
  have h2:=of_decide_eq_true h2
  rw [decide_eq_true]
  cases s; cases t; simp_all
 ·rw [decide_eq_false]; rintro rfl; simp at h2
 ·rw [decide_eq_false]; rintro rfl; simp at h1
 ·rw [decide_eq_false]; rintro rfl; simp at h0
theorem oz15 (m:Int):SpecOk PI (GI m) 15 z15:=spec_of (X:=XSe) (m:=[]) mixedI (tbl_cons (oz38 m) tbl_nil) itbl_nil fun args r h=>by
 unfold z15 at h
 split at h
 case h_2=>cases h
 split at h
 case h_2=>cases h
 rename_i p q hp hq
 split at h
 case isFalse=>cases h
 rename_i hc
 injection h with h; subst h
 obtain rfl:=unK_inv hp
 obtain rfl:=unK_inv hq
 refine ⟨nAn,⟨?_⟩⟩
 rw [wz15]
 have hF:∀ {b:Bool},(p = q→b = true)→b = false→RetIs (.bool false) [] (.bool (decide (p = q)),[]):=fun hb h=>⟨by rw [decide_eq_false]; intro e; rw [hb e] at h; cases h⟩
 have hN:p.ack ≠ q.ack→RetIs (.bool false) [] (.bool (decide (p = q)),[]):=fun hb=>⟨by rw [decide_eq_false]; rintro rfl; exact hb rfl⟩
 have last:(p.src == q.src) = true→p.ack = q.ack→((p.next == q.next) = true→∃ (b:Bool),CallIs (tbl [(38,z38)] (38) [.agg (fcC p.f),.agg (fcC q.f)]) (.bool b) []∧(b = true→RetIs (.bool true) [] (.bool (decide (p = q)),[]))∧(b = false→RetIs (.bool false) [] (.bool (decide (p = q)),[])))∧((p.next == q.next) = false→RetIs (.bool false) [] (.bool (decide (p = q)),[])):=fun h0 h1=>by
  refine ⟨fun h2=>⟨decide (p.f = q.f),⟨by rw [tbl_hit]; exact cy38 hc⟩,fun h3=>⟨?_⟩,hF fun e=>by simp [e]⟩,hF fun e=>by simp [e]⟩
  have h0:p.src = q.src:=by simpa using h0
  have h2:p.next = q.next:=by simpa using h2
  have h3:=of_decide_eq_true h3
  rw [decide_eq_true]
  cases p; cases q; simp_all
 refine ⟨fun h0=>⟨fun h1=>⟨fun h2=>⟨fun _=>last h0 (by rw [h1,h2]),fun h=>(by cases h)⟩,fun h2=>⟨fun h=>(by cases h),fun _=>hN (by rw [h1,h2]; simp)⟩⟩,fun h1=>⟨fun h2=>⟨fun h=>(by cases h),fun _=>hN (by rw [h1,h2]; simp)⟩,fun h2=>⟨fun _=>last h0 (by rw [h1,h2]),fun h=>(by cases h)⟩⟩⟩,hF fun e=>by simp [e]⟩
theorem oz10 (m:Int):SpecOk PI (GI m) 10 z10:=lax_of (X:=XSe) (m:=[]) mixedI (tbl_cons (o35 m) tbl_nil) itbl_nil fun args r h=>by
 unfold z10 at h
 split at h
 case h_2=>cases h
 rename_i s
 split at h
 case isFalse=>cases h
 rename_i hl
 injection h with h; subst h
 refine ⟨nAn,⟨?_⟩⟩
 rw [wz10]
 refine ⟨nameR s,⟨c35 hl⟩,fun h=>?_,fun h=>?_⟩
 ·simp only [srcP,h,if_true]
  exact ⟨⟨⟨rfl,rfl,⟨rfl,rfl,.inr rfl⟩,trivial⟩,rfl,trivial⟩,rfl,rfl⟩
 ·simp only [srcP,h,Bool.false_eq_true,if_false]
  exact ⟨⟨⟨rfl,rfl,⟨rfl,rfl,.inr rfl⟩,trivial⟩,rfl,trivial⟩,rfl,rfl⟩
theorem oz9 (m:Int):SpecOk PI (GI m) 9 z10:=(o20 m).lax fun args r' h=>by
 unfold z10 at h
 split at h
 case h_2=>cases h
 rename_i s
 split at h
 case isFalse=>cases h
 rename_i hl
 injection h with h; subst h
 refine ⟨_,by simp only [s20]; rw [if_pos hl],?_,rfl⟩
 cases hn:nameR s with
 | true=>simp only [srcP,hn,if_true]; exact ⟨⟨rfl,rfl,⟨rfl,rfl,.inr rfl⟩,trivial⟩,rfl,trivial⟩
 | false=>simp only [srcP,hn,Bool.false_eq_true,if_false]; exact ⟨⟨rfl,rfl,⟨rfl,rfl,.inr rfl⟩,trivial⟩,rfl,trivial⟩
theorem oz14 (m:Int):SpecOk PI (GI m) 14 z14:=lax_of (X:=XSe) (m:=[]) mixedI tbl_nil itbl_nil fun args r h=>by
 unfold z14 at h
 split at h
 case h_2=>cases h
 rename_i nm nx sz es src seq kind ref tab key ev sz2 es2
 split at h
 case isFalse=>cases h
 rename_i hc
 obtain ⟨rfl,rfl,hlen,hnx⟩:=hc
 split at h
 case h_2=>cases h
 rename_i l fs hl hfs
 obtain rfl:=unGs_inv hl
 obtain rfl:=unL_inv unV_inv hfs
 injection h with h; subst h
 obtain ⟨g,hgd⟩:∃ g:FcI,(⟨src,seq,kind,ref,tab,key,ev,fs⟩:FcI) = g:=⟨_,rfl⟩
 rw [hgd]
 obtain ⟨q,hq⟩:∃ q,subP ⟨nm,nx,l⟩ g = q:=⟨_,rfl⟩
 rw [hq]
 obtain ⟨⟨rn,rx,rl⟩,p,rc⟩:=q
 have hZ:∀ c:Int,(q:(⟨⟨rn,rx,rl⟩,p,rc⟩:SdI × PkI × Int) = (⟨[],0,[]⟩,⟨[],false,0,⟨[],0,0,0,[],[],0,[]⟩⟩,c))→RetLax (.tup [.agg sdZ,.agg zeroPC,.int .i64 c]) (.tup [.agg (sdC rn rx 8 (fcsL rl)),pkA p,.int .i64 rc],[]):=fun c hq=>by
  simp only [Prod.mk.injEq,SdI.mk.injEq] at hq
  obtain ⟨⟨rfl,rfl,rfl⟩,rfl,rfl⟩:=hq
  exact ⟨⟨⟨rfl,rfl,⟨rfl,rfl,.inr rfl⟩,trivial⟩,⟨rfl,rfl,rfl,rfl,rfl,rfl,rfl,rfl,rfl,rfl,⟨rfl,rfl,.inr rfl⟩,trivial⟩,rfl,trivial⟩,rfl,rfl⟩
 have hgc:(AV.agg [.str src,.int .i64 seq,.int .i64 kind,.int .i64 ref,.str tab,.str key,.int .i64 ev,.sl 3 (fs.map vaA) .no]) = .agg (fcC g):=by rw [← hgd]
 have hll:(fcsL l).length = l.length:=List.length_map ..
 have hw:decide (nx > 1099511627776) = false→IntKind.i64.wrap (nx + 1) = nx + 1:=fun h=>by
  have h:=of_decide_eq_false h
  exact wrap64_in (by omega) (by omega)
 rw [hgc]
 refine ⟨nAn,⟨?_⟩⟩
 show laxW PI (GI m) XSe (tbl []) (itbl []) nAn [] 14 [.agg (sdC nm nx 8 (fcsL l)),.agg (fcC g)] (.tup [.agg (sdC rn rx 8 (fcsL rl)),pkA p,.int .i64 rc],[])
 rw [wz14]
 rw [hll] at hlen ⊢
 refine ⟨fun h=>hZ 2 ?_,fun h=>⟨fun h'=>hZ 410 ?_,fun h'=>⟨.inl rfl,by omega,fun h2=>⟨.inl rfl,by omega,?_⟩,fun h2=>⟨.inl rfl,by simp; omega,by simp,?_⟩⟩⟩⟩
 ·have h:=of_decide_eq_true h
  rw [← hq]; unfold subP; rw [if_pos (by show (1099511627776:Int) < nx; omega)]
 ·have h:=of_decide_eq_false h
  have h':=of_decide_eq_true h'
  rw [← hq]; unfold subP; rw [if_neg (by show ¬ (1099511627776:Int) < nx; omega),if_pos (by show 64≤l.length; omega)]
 ·have h3:(⟨⟨rn,rx,rl⟩,p,rc⟩:SdI × PkI × Int) = (⟨nm,nx + 1,l ++ [{ g with src:=nm,seq:=nx }]⟩,⟨nm,false,0,{ g with src:=nm,seq:=nx }⟩,0):=by
   have h:=of_decide_eq_false h
   have h':=of_decide_eq_false h'
   rw [← hq]; unfold subP; rw [if_neg (by show ¬ (1099511627776:Int) < nx; omega),if_neg (by show ¬ 64≤l.length; omega)]
  rw [hw h]
  simp only [Prod.mk.injEq,SdI.mk.injEq] at h3
  obtain ⟨⟨rfl,rfl,rfl⟩,rfl,rfl⟩:=h3
  obtain rfl:l = []:=by simpa using h2
  exact ⟨⟨⟨rfl,rfl,⟨rfl,rfl,.inl rfl⟩,trivial⟩,⟨rfl,rfl,rfl,rfl,rfl,rfl,rfl,rfl,rfl,rfl,⟨rfl,rfl,.inl rfl⟩,trivial⟩,rfl,trivial⟩,rfl,rfl⟩
 ·have h3:(⟨⟨rn,rx,rl⟩,p,rc⟩:SdI × PkI × Int) = (⟨nm,nx + 1,l ++ [{ g with src:=nm,seq:=nx }]⟩,⟨nm,false,0,{ g with src:=nm,seq:=nx }⟩,0):=by
   have h:=of_decide_eq_false h
   have h':=of_decide_eq_false h'
   rw [← hq]; unfold subP; rw [if_neg (by show ¬ (1099511627776:Int) < nx; omega),if_neg (by show ¬ 64≤l.length; omega)]
  rw [hw h]
  simp only [Prod.mk.injEq,SdI.mk.injEq] at h3
  obtain ⟨⟨rfl,rfl,rfl⟩,rfl,rfl⟩:=h3
  exact ⟨⟨⟨rfl,rfl,⟨rfl,by simp [fcA],.inl rfl⟩,trivial⟩,⟨rfl,rfl,rfl,rfl,rfl,rfl,rfl,rfl,rfl,rfl,⟨rfl,rfl,.inl rfl⟩,trivial⟩,rfl,trivial⟩,rfl,rfl⟩
theorem oz17 (m:Int):SpecOk PI (GI m) 17 z17:=lax_of (X:=XSe) (m:=[]) mixedI tbl_nil itbl_nil fun args r h=>by
 unfold z17 at h
 split at h
 case h_2=>cases h
 rename_i nm nx sz es
 split at h
 case isFalse=>cases h
 rename_i hc
 obtain ⟨rfl,hlen⟩:=hc
 split at h
 case h_2=>cases h
 rename_i l hl
 obtain rfl:=unGs_inv hl
 injection h with h; subst h
 refine ⟨az17 nm nx l,⟨?_⟩⟩
 rw [wz17]
 have hll:(fcsL l).length = l.length:=List.length_map ..
 have hrl:∀ n,n≤l.length→(resR nm (l.take n)).length = n:=fun n hn=>by simp [resR]; omega
 have hpl:∀ n,n≤l.length→(pksL (resR nm (l.take n))).length = n:=fun n hn=>by simp [resR]; omega
 rw [hll] at hlen ⊢
 refine ⟨⟨0,⟨rfl⟩,⟨rfl⟩,Nat.zero_le _,trivial⟩,fun x hx=>⟨fun hlt=>?_,fun hge=>?_⟩⟩
 ·have hlt:=of_decide_eq_true hlt
  have hil:x < l.length:=by omega
  refine ⟨⟨by omega,hlt⟩,_,_,_,_,_,_,_,_,by rw [Int.toNat_natCast]; exact take_f hil,.inl rfl,by rw [hpl _ hx]; omega,by rw [hpl _ hx,hrl _ hx],x + 1,⟨?_⟩,⟨?_⟩,hil,by omega⟩
  ·rw [wrapN (by omega),List.take_succ_eq_append_getElem hil]
   simp only [resR,List.map_append,List.map_cons,List.map_nil]
   rfl
  ·rw [hpl _ hx,hrl _ hil]
 ·have hge:=of_decide_eq_false hge
  have hx':x = l.length:=by omega
  subst hx'
  rw [List.take_of_length_le (Nat.le_refl _)]
  exact ⟨⟨rfl,rfl,.inl rfl⟩,rfl,rfl⟩
theorem oz19 (m:Int):SpecOk PI (GI m) 19 z19:=lax_of (X:=XSe) (m:=[]) mixedI tbl_nil itbl_nil fun args r h=>by
 unfold z19 at h
 split at h
 case h_2=>cases h
 rename_i nm nx sz es src ack n fsrc seq kind ref tab key ev sz2 fs
 split at h
 case isFalse=>cases h
 rename_i hc
 obtain ⟨rfl,rfl,hlen⟩:=hc
 split at h
 case h_2=>cases h
 rename_i l hl
 obtain rfl:=unGs_inv hl
 injection h with h; subst h
 obtain ⟨q,hq⟩:∃ q,ackP ⟨nm,nx,l⟩ src ack n = q:=⟨_,rfl⟩
 rw [hq]
 obtain ⟨⟨rn,rx,rl⟩,rc⟩:=q
 have hz:ackBad nm nx src ack n = true→RetLax (.tup [.agg sdZ,.int .i64 1]) (.tup [.agg (sdC rn rx 8 (fcsL rl)),.int .i64 rc],[]):=fun hb=>by
  simp only [ackP,hb,if_true,Prod.mk.injEq,SdI.mk.injEq] at hq
  obtain ⟨⟨rfl,rfl,rfl⟩,rfl⟩:=hq
  exact ⟨⟨⟨rfl,rfl,⟨rfl,rfl,.inr rfl⟩,trivial⟩,rfl,trivial⟩,rfl,rfl⟩
 have hg:ackBad nm nx src ack n = false→(⟨rn,rx,rl⟩,rc) = ((⟨nm,nx,l.filter fun f=>!decide (f.seq < n)⟩:SdI),(0:Int)):=fun hb=>by
  simp only [ackP,hb,Bool.false_eq_true,if_false] at hq
  exact hq.symm
 refine ⟨az19 nm src nx l (pkD src ack n fsrc seq kind ref tab key ev fs) n,⟨?_⟩⟩
 show laxW PI (GI m) XSe (tbl []) (itbl []) (az19 nm src nx l (pkD src ack n fsrc seq kind ref tab key ev fs) n) [] 19 [.agg (sdC nm nx 8 (fcsL l)),.agg (pkD src ack n fsrc seq kind ref tab key ev fs)] (.tup [.agg (sdC rn rx 8 (fcsL rl)),.int .i64 rc],[])
 rw [wz19]
 have hll:(fcsL l).length = l.length:=List.length_map ..
 have hfl:∀ k,(fcsL ((l.take k).filter (keepF n))).length = ((l.take k).filter (keepF n)).length:=fun k=>List.length_map ..
 have hfle:∀ k,((l.take k).filter (keepF n)).length≤l.length:=fun k=>by
  have h1:=List.length_filter_le (keepF n) (l.take k)
  have h2:=List.length_take_le k l
  have h3:(l.take k).length≤l.length:=by rw [List.length_take]; omega
  omega
 rw [hll] at hlen ⊢
 refine ⟨fun h1=>⟨fun h2=>hz (by simp_all [ackBad]),fun h2=>⟨fun h3=>hz (by simp_all [ackBad]),fun h3=>⟨fun h4=>hz (by simp_all [ackBad]),fun h4=>⟨⟨0,⟨rfl⟩,⟨rfl⟩,Nat.zero_le _,trivial⟩,fun x hx=>⟨fun hlt=>?_,fun hge=>?_⟩⟩⟩⟩⟩,fun h1=>hz (by simp_all [ackBad])⟩
 ·have hlt:=of_decide_eq_true hlt
  have hil:x < l.length:=by omega
  refine ⟨⟨by omega,hlt⟩,_,by rw [Int.toNat_natCast]; exact take_seq hil,fun h5=>⟨⟨by omega,hlt⟩,_,_,_,_,_,_,_,_,by rw [Int.toNat_natCast]; exact take_f hil,.inl rfl,by rw [hfl]; have:=hfle x; omega,by rw [hfl],x + 1,⟨by rw [wrapN (by omega)]⟩,⟨?_⟩,hil,by omega⟩,fun h5=>⟨x + 1,⟨by rw [wrapN (by omega)]⟩,⟨?_⟩,hil,by omega⟩⟩
  ·have h5:=of_decide_eq_true h5
   have hk:keepF n l[x] = true:=by simp [keepF]; omega
   have hs:(l.take (x + 1)).filter (keepF n) = (l.take x).filter (keepF n) ++ [l[x]]:=by
    rw [List.take_succ_eq_append_getElem hil,List.filter_append]
    simp only [List.filter_cons,hk,if_true,List.filter_nil]
   rw [hfl,hs]
   simp [fcA]
  ·have h5:=of_decide_eq_false h5
   have hk:keepF n l[x] = false:=by simp [keepF]; omega
   have hs:(l.take (x + 1)).filter (keepF n) = (l.take x).filter (keepF n):=by
    rw [List.take_succ_eq_append_getElem hil,List.filter_append]
    simp [hk]
   rw [hs]
 ·have hge:=of_decide_eq_false hge
  have hx':x = l.length:=by omega
  subst hx'
  rw [List.take_of_length_le (Nat.le_refl _)]
  have:=hg (by simp_all [ackBad])
  simp only [Prod.mk.injEq,SdI.mk.injEq] at this
  obtain ⟨⟨rfl,rfl,rfl⟩,rfl⟩:=this
  exact ⟨⟨⟨rfl,rfl,⟨rfl,rfl,.inl rfl⟩,trivial⟩,rfl,trivial⟩,rfl,rfl⟩
theorem fcsOk_at {l:List FcI} (h:fcsOk l = true) {f:FcI} (hf:f ∈ l):f.src.length≤140737488351232∧f.table.length≤140737488351232∧f.key.length≤140737488351232∧f.fs.length≤140737488351232:=by
 have:=List.all_eq_true.1 h f hf
 simpa [and_assoc] using this
theorem oz25 (m:Int):SpecOk PI (GI m) 25 z25:=spec_of (X:=XSe) (m:=[]) mixedI (tbl_cons (o35 m) tbl_nil) itbl_nil fun args r h=>by
 unfold z25 at h
 split at h
 case h_2=>cases h
 split at h
 case h_2=>cases h
 rename_i s hs
 split at h
 case isFalse=>cases h
 rename_i hc
 injection h with h; subst h
 obtain rfl:=unS_inv hs
 refine ⟨az25 s,⟨?_⟩⟩
 unfold sdA
 rw [wz25]
 have hll:(fcsL s.l).length = s.l.length:=List.length_map ..
 rw [hll]
 have hF:sndOk s = false→RetIs (.bool false) [] (.bool (sndOk s),[]):=fun h=>⟨by rw [h]⟩
 refine ⟨nameR s.nm,⟨by rw [tbl_hit]; simp only [s27]; rw [if_pos hc.1]⟩,fun h0=>⟨fun h1=>hF ?_,fun h1=>⟨fun h2=>hF ?_,fun h2=>⟨fun h3=>hF ?_,fun h3=>⟨⟨0,⟨rfl⟩,⟨rfl⟩,⟨Nat.zero_le _,by simp⟩,trivial⟩,fun x ⟨hx,hk⟩=>?_⟩⟩⟩⟩,fun h0=>hF (by simp [sndOk,h0])⟩
 ·have:decide (1≤s.nx) = false:=decide_eq_false (by have:=of_decide_eq_true h1; omega)
  simp [sndOk,this]
 ·have:decide (s.nx≤maxT + 1) = false:=decide_eq_false (by have:=of_decide_eq_true h2; unfold maxT; omega)
  simp [sndOk,this]
 ·have:decide (s.l.length≤64) = false:=decide_eq_false (by have:=of_decide_eq_true h3; omega)
  simp [sndOk,this]
 have h1:=of_decide_eq_false h1
 have h2:=of_decide_eq_false h2
 have h3:=of_decide_eq_false h3
 have hok:sndOk s = chkS s.nm (s.nx - s.l.length) s.l:=by
  have e1:decide (1≤s.nx) = true:=decide_eq_true (by omega)
  have e2:decide (s.nx≤maxT + 1) = true:=decide_eq_true (by unfold maxT; omega)
  have e3:decide (s.l.length≤64) = true:=decide_eq_true (by omega)
  simp [sndOk,h0,e1,e2,e3]
 refine ⟨fun hlt=>?_,fun hge=>⟨?_⟩⟩
 ·have hlt:=of_decide_eq_true hlt
  have hil:x < s.l.length:=by omega
  have ew:IntKind.i64.wrap (IntKind.i64.wrap (s.nx - (s.l.length:Int)) + (x:Int)) = s.nx - s.l.length + x:=by
   rw [wrap64_in (n:=s.nx - (s.l.length:Int)) (by omega) (by omega),wrap64_in (by omega) (by omega)]
  rw [ew]
  have hd:s.l.drop x = s.l[x] :: s.l.drop (x + 1):=List.drop_eq_getElem_cons hil
  refine ⟨⟨by omega,hlt⟩,_,_,by rw [Int.toNat_natCast]; exact take_id hil,fun h4=>hF ?_,fun h4=>⟨fun h5=>hF ?_,fun h5=>⟨x + 1,⟨by rw [wrapN (by omega)]⟩,⟨rfl⟩,⟨hil,?_⟩,by omega⟩⟩⟩
  ·rw [hok,hk,hd]
   simp only [chkS]
   by_cases e1:s.l[x].src = s.nm
   ·by_cases e2:s.l[x].seq = s.nx - s.l.length + x
    ·rw [e1,e2] at h4; simp at h4
    ·simp [e2]
   ·simp [e1]
  ·rw [hok,hk,hd]
   simp only [chkS]
   have:decide (1≤s.nx - (s.l.length:Int) + (x:Int)) = false:=decide_eq_false (by have:=of_decide_eq_true h5; omega)
   simp [this]
  ·rw [hk,hd]
   simp only [chkS]
   have e3:decide (1≤s.nx - (s.l.length:Int) + (x:Int)) = true:=decide_eq_true (by have:=of_decide_eq_false h5; omega)
   have e:s.l[x].src = s.nm∧s.l[x].seq = s.nx - (s.l.length:Int) + x:=by simpa using h4
   rw [e3,decide_eq_true e.1,decide_eq_true e.2]
   simp only [Bool.true_and]
   congr 1
   omega
 ·have hge:=of_decide_eq_false hge
  have hx':x = s.l.length:=by omega
  rw [hok,hk,hx',List.drop_length]
  rfl
theorem cy25 {s:SdI} (h1:s.nm.length≤140737488351232) (h2:s.l.length≤140737488351232):z25 [.agg (sdC s.nm s.nx 8 (fcsL s.l))] = some (.bool (sndOk s),[]):=by
 have h:unS (.agg (sdC s.nm s.nx 8 (fcsL s.l))) = some s:=unS_ok s
 simp only [z25]
 rw [h]
 simp only
 rw [if_pos ⟨h1,h2⟩]
theorem cy8 {f:FcI} (h:f.src.length≤140737488351232∧f.table.length≤140737488351232∧f.key.length≤140737488351232∧f.fs.length≤140737488351232):s9 [.agg (fcC f)] = some (.bool (smallB f),[]):=by
 unfold s9
 simp only [if_true]
 rw [show unL unV (vasL f.fs) = some f.fs from unL_map unV_ok f.fs]
 simp only
 rw [if_pos h]
theorem oz12 (m:Int):SpecOk PI (GI m) 12 z12:=spec_of (X:=XSe) (m:=[]) mixedI (tbl_cons (o9 m) (tbl_cons (oz25 m) tbl_nil)) itbl_nil fun args r h=>by
 unfold z12 at h
 split at h
 case h_2=>cases h
 split at h
 case h_2=>cases h
 rename_i s hs
 split at h
 case isFalse=>cases h
 rename_i hc
 injection h with h; subst h
 obtain rfl:=unS_inv hs
 refine ⟨az12 s,⟨?_⟩⟩
 unfold sdA
 rw [wz12]
 have hll:(fcsL s.l).length = s.l.length:=List.length_map ..
 rw [hll]
 refine ⟨fun h0=>⟨?_⟩,fun h0=>⟨⟨0,⟨rfl⟩,⟨rfl⟩,⟨Nat.zero_le _,rfl⟩,trivial⟩,fun x ⟨hx,hk⟩=>⟨fun hlt=>?_,fun hge=>?_⟩⟩⟩
 ·have:decide (s.l.length≤64) = false:=decide_eq_false (by have:=of_decide_eq_true h0; omega)
  simp [this]
 ·have hlt:=of_decide_eq_true hlt
  have hil:x < s.l.length:=by omega
  refine ⟨⟨by omega,hlt⟩,_,_,_,_,_,_,_,_,by rw [Int.toNat_natCast]; exact take_f hil,smallB s.l[x],⟨by rw [tbl_hit]; exact cy8 (fcsOk_at hc.2.2 (List.getElem_mem hil))⟩,fun h1=>⟨x + 1,⟨by rw [wrapN (by omega)]⟩,⟨rfl⟩,⟨hil,?_⟩,by omega⟩,fun h1=>⟨?_⟩⟩
  ·rw [List.take_succ_eq_append_getElem hil,List.all_append,hk]
   simp [h1]
  ·have:s.l.all smallB = false:=by
    rw [List.all_eq_false]
    exact ⟨s.l[x],List.getElem_mem hil,by simp [h1]⟩
   simp [this]
 ·have hge:=of_decide_eq_false hge
  have hx':x = s.l.length:=by omega
  subst hx'
  rw [List.take_length] at hk
  have e1:decide (s.l.length≤64) = true:=decide_eq_true (by have:=of_decide_eq_false h0; omega)
  refine ⟨sndOk s,⟨by rw [tbl_miss (by decide),tbl_hit]; exact cy25 hc.1 hc.2.1⟩,fun h1=>⟨by rw [e1,hk,h1]; rfl⟩,fun h1=>⟨by rw [e1,hk,h1]; rfl⟩⟩
end Go.Abs
namespace Go.Abs
open Go.Proofs
abbrev pkCl (p:PkI):List AV:=[.str p.src,.bool p.ack,.int .i64 p.next,.str p.f.src,.int .i64 p.f.seq,.int .i64 p.f.kind,.int .i64 p.f.ref,.str p.f.table,.str p.f.key,.int .i64 p.f.event,.sl 3 (vasL p.f.fs) .no]
abbrev sdCl (s:SdI):List AV:=sdC s.nm s.nx 8 (fcsL s.l)
abbrev tz3:List (FuncId × Spec):=[(7,s7),(8,s9),(9,z10),(10,z10),(11,z11),(12,z12),(13,s21),(14,z14),(15,z15),(16,s22),(17,z17),(18,s23),(19,z19)]
theorem tz3_ok (m:Int):CalleeOk PI (GI m) (tbl tz3):=tbl_cons (o7 m) (tbl_cons (o9 m) (tbl_cons (oz9 m) (tbl_cons (oz10 m) (tbl_cons (oz11 m) (tbl_cons (oz12 m) (tbl_cons (o21 m) (tbl_cons (oz14 m) (tbl_cons (oz15 m) (tbl_cons (o22 m) (tbl_cons (oz17 m) (tbl_cons (o23 m) (tbl_cons (oz19 m) tbl_nil))))))))))))
def az3 (name:List UInt8) (s:SdI) (f:FcI) (p:PkI):Anns:=⟨fun k=>if k = 19 then some { α:=Nat,slots:=[5,7,19,20,21],nb:=9,vals:=fun n=>[.ptr 0 0,.ptr 2 0,.sl 11 (pksL (resP s.l)) .no,.sl 11 (pksL (resR s.nm s.l)) .no,.int .i64 n],sS:=fun _=>⟨[some (sdCl s),some (fcC f),some (pkCl p),some (sdCl (srcP name).1),some (sdCl (srcP name).1),some (sdCl (subP s f).1),some (pkCl (subP s f).2.1),some (sdCl (subP s f).1),some (pkCl (subP s f).2.1)],[]⟩,I:=fun n=>n≤s.l.length,μ:=fun n=>s.l.length - n } else none,nA⟩
end Go.Abs
